/-
  The walk of pick.Top.
-/
import Derived.Test.YtfnjomhefklbiaaPickN
namespace Go.Proofs.Ytfnjomhefklbiaa
open Go.RowKit

theorem HeapAt.blocks {p g cap : Nat} {l : List (Int × Int)} {w w' : World} (h : HeapAt p g cap l w) (hp : w'.heap[p]? = w.heap[p]?) (hg : w'.heap[g]? = w.heap[g]?) : HeapAt p g cap l w' :=
  ⟨(World.cell?_of_block hp).trans h.head, fun o => (World.frozen?_of_block hp).trans (h.free o), h.ne, h.fits,
    fun i hi => ⟨(World.cell?_of_block hg).trans (h.cells i hi).1, (World.cell?_of_block hg).trans (h.cells i hi).2⟩, fun o => (World.frozen?_of_block hg).trans (h.gfree o)⟩
theorem ownsRow_only2 {p g : Nat} {w w' : World} {base : Nat} {e : TypeId} {size : Nat} {v : Value} {n : Nat} {xs : List Value} (h : w.ownsRow base e size v n xs) (hO : Only2 p g w w') (hp : v.ownBlock ≠ some p) (hg : v.ownBlock ≠ some g) : w'.ownsRow base e size v n xs := by
  refine ⟨h.1, ?_⟩
  rcases h.2 with hn | ⟨b, cap, cur, rfl, hb, hgg, rest⟩
  · exact .inl hn
  · refine .inr ⟨b, cap, cur, rfl, hb, ?_, rest⟩
    rw [hO.block b (Array.getElem?_eq_some_iff.1 hgg).1 (fun e => hp (by simp [Value.ownBlock, e])) (fun e => hg (by simp [Value.ownBlock, e]))]
    exact hgg

/-- What is taken off a heap: one after another, so many at most. -/
def takeTop : Nat → List (Int × Int) → List Int
  | 0, _ => []
  | f + 1, h =>
    match (popL h).getLast? with
    | none => []
    | some x => x.1 :: takeTop f (popL h).dropLast
theorem takeTop_go {f : Nat} {h r : List (Int × Int)} {x : Int × Int} (e : popL h = r ++ [x]) : takeTop (f + 1) h = x.1 :: takeTop f r := by
  rw [takeTop, e]; simp
theorem takeTop_nil (f : Nat) : takeTop f [] = [] := by
  cases f with
  | zero => rfl
  | succ f =>
    have : popL [] = [] := List.eq_nil_of_length_eq_zero (by rw [popL_length]; rfl)
    rw [takeTop, this]; rfl
theorem popL_some {h : List (Int × Int)} (h0 : 0 < h.length) : ∃ r x, popL h = r ++ [x] ∧ r.length + 1 = h.length := by
  have hl := popL_length h
  rcases List.eq_nil_or_concat (popL h) with e | ⟨r, x, e⟩
  · rw [e] at hl; simp at hl; omega
  · rw [List.concat_eq_append] at e
    refine ⟨r, x, e, ?_⟩
    rw [e] at hl; simpa using hl

def intsV (l : List Int) : List Value := l.map fun x => .int .i64 x
theorem intsV_snoc (l : List Int) (x : Int) : intsV (l ++ [x]) = intsV l ++ [.int .i64 x] := by simp [intsV]
def sliceLen : Value → Nat
  | .slice _ n _ => n
  | _ => 0

/-- The heap and what is out of it. -/
structure OutAt (w0 : World) (p g c : Nat) (h : List (Int × Int)) (r : List Int) (v : Value) (wr : World) : Prop where
  own : wr.ownsRow w0.heap.size 3 1 v r.length (intsV r)
  heap : HeapAt p g c h wr
  pa : v.ownBlock ≠ some p
  ga : v.ownBlock ≠ some g
  below : Below w0.heap.size w0 wr
  plt : p < wr.heap.size
  glt : g < wr.heap.size
  len : sliceLen v = r.length

theorem int_info : (Try.prog.info? 3).map (fun i => (i.zero, i.size, i.bytes)) = some (some (.int .i64 0), 1, 8) := by kernel_rfl

theorem OutAt.start {w0 : World} {p g c : Nat} {h : List (Int × Int)} {w : World} (hH : HeapAt p g c h w) (hb : Below w0.heap.size w0 w) (hg : g < w.heap.size) : OutAt w0 p g c h [] (.slice none 0 0) w :=
  ⟨World.ownsRow_nil _ _ _ _, hH, by simp [Value.ownBlock], by simp [Value.ownBlock], hb, World.block_lt_of_cell? w _ hH.head, hg, rfl⟩

theorem OutAt.form {w0 : World} {p g c : Nat} {h : List (Int × Int)} {r : List Int} {v : Value} {wr : World} (hO : OutAt w0 p g c h r v wr) : ∃ ao c', v = .slice ao r.length c' := by
  rcases hO.own.2 with ⟨e, hn⟩ | ⟨g, cap, cur, hv, _⟩
  · exact ⟨none, 0, by rw [e, hn]⟩
  · exact ⟨_, _, hv⟩

theorem OutAt.popped {w0 : World} {p g c : Nat} {h h' : List (Int × Int)} {r : List Int} {v : Value} {wr w1 : World} (hO : OutAt w0 p g c h r v wr) (H : HeapAt p g c h' w1) (k : Only2 p g wr w1) (hp : w0.heap.size ≤ p) (hg : w0.heap.size ≤ g) : OutAt w0 p g c h' r v w1 :=
  ⟨ownsRow_only2 hO.own k hO.pa hO.ga, H, hO.pa, hO.ga, hO.below.trans (k.below hp hg hO.below.size), Nat.lt_of_lt_of_le hO.plt k.size, Nat.lt_of_lt_of_le hO.glt k.size, hO.len⟩
theorem OutAt.kept {w0 : World} {p g c : Nat} {h : List (Int × Int)} {r : List Int} {v : Value} {wr w1 : World} (hO : OutAt w0 p g c h r v wr) (k : Below wr.heap.size wr w1) : OutAt w0 p g c h r v w1 := by
  have k2 : Only2 p g wr w1 := ⟨k.os, k.tape, k.output, k.size, fun i hi _ _ => k.block i hi⟩
  exact ⟨ownsRow_only2 hO.own k2 hO.pa hO.ga, hO.heap.blocks (k.block p hO.plt) (k.block g hO.glt), hO.pa, hO.ga, hO.below.trans (k.mono hO.below.size), Nat.lt_of_lt_of_le hO.plt k.size, Nat.lt_of_lt_of_le hO.glt k.size, hO.len⟩
theorem OutAt.more {w0 : World} {p g c : Nat} {h : List (Int × Int)} {r : List Int} {v v' : Value} {wr w1 : World} (hO : OutAt w0 p g c h r v wr) (x : Int) (hown : w1.ownsRow w0.heap.size 3 1 v' (r.length + 1) (intsV r ++ [.int .i64 x])) (hgrow : wr.grownBy w1 v.ownBlock)
    (hat : v'.ownBlock = v.ownBlock ∨ v'.ownBlock = some wr.heap.size) : OutAt w0 p g c h (r ++ [x]) v' w1 := by
  have h1 := hO.plt
  have h2 := hO.glt
  refine ⟨by rw [intsV_snoc, List.length_append, List.length_singleton]; exact hown, hO.heap.blocks (hgrow.block p h1 (fun e => hO.pa e.symm)) (hgrow.block g h2 (fun e => hO.ga e.symm)), ?_, ?_, ?_, Nat.lt_of_lt_of_le h1 hgrow.size, Nat.lt_of_lt_of_le h2 hgrow.size, ?_⟩
  · rcases hat with e | e <;> rw [e]
    · exact hO.pa
    · intro e; simp at e; omega
  · rcases hat with e | e <;> rw [e]
    · exact hO.ga
    · intro e; simp at e; omega
  · exact hO.below.trans ⟨hgrow.os, hgrow.tape, hgrow.output, hgrow.size, fun k hk => hgrow.block k (Nat.lt_of_lt_of_le hk hO.below.size) (fun e => by have := (hO.own.lt k e.symm).1; omega)⟩
  · obtain ⟨g', c', rfl⟩ := hown.slice (by omega)
    simp [sliceLen]

@[go_sem] theorem as_place (v : Value) (w : World) : (Instr.typeAssert (.iface 73 v) 20 73 true).run Try.prog w = .ok (.tuple #[v, .bool true]) w := by kernel_rfl

theorem cell_one_new2 (w : World) (o : Obj) (x : Value) (t : TypeId) : ∀ j u, [x][j]? = some u → ((w.alloc o).alloc (.cells #[x] t)).cell? ((⟨w.heap.size + 1, 0, none⟩ : Addr).add j) = some u := by
  have h := cell_one_new (w.alloc o) x t
  rw [show (w.alloc o).heap.size = w.heap.size + 1 from by simp] at h
  exact h

set_option maxHeartbeats 2000000 in
theorem top_any (ao : Option Addr) (cap : Nat) (l : List Int) (most : Int) (w : World) (hs : IntsAt w ao l) (h0 : 0 < l.length) (hl : l.length ≤ 1000000) :
    Calls Try.prog 25 #[.slice ao l.length cap, .int .i64 most] w fun e w' => ∃ v, e = .returned v ∧ w'.ownsRow w.heap.size 3 1 v (takeTop most.toNat (initL l.length (l.length / 2) (pairs l))).length (intsV (takeTop most.toNat (initL l.length (l.length / 2) (pairs l)))) ∧ sliceLen v = (takeTop most.toNat (initL l.length (l.length / 2) (pairs l))).length ∧ Below w.heap.size w w' := by
  obtain ⟨i0, hi, hz0, hz1, hz2⟩ := info_parts int_info
  generalize hL : initL l.length (l.length / 2) (pairs l) = L
  have hLl : L.length = l.length := by rw [← hL, initL_length, pairs_length]
  go_enter Try.func25, Try.ntmps25
  go_wp2_with fail
  refine (heaped_any ao cap l w hs h0 hl).mono ?_
  rintro e w1 ⟨p, g, c, rfl, hH, hp, hpg, hb1⟩
  rw [hL] at hH
  have hg1 : g < w1.heap.size := World.block_lt_of_cell? w1 _ (hH.cells 0 (by omega)).1
  go_wp2_with fail
  go_loopw [6] (fun j wr => ∃ (h : List (Int × Int)) (r : List Int), h.length + r.length = l.length ∧ Hid (r ++ takeTop (most.toNat - r.length) h = takeTop most.toNat L) ∧ OutAt w p g c h r j wr) (fun j _ => l.length - sliceLen j)
  case atStart => exact ⟨L, [], by simpa using hLl, Lib.hid (by simp), OutAt.start hH hb1 hg1⟩
  case round =>
    obtain ⟨h, r, hhr, hT, hO⟩ := hrel
    obtain ⟨ao', c', rfl⟩ := hO.form
    have hd := hO.heap.head
    have hr0 : (0 : Int) ≤ (r.length : Int) := Int.natCast_nonneg _
    by_cases hh : 0 < h.length
    · have hh' : (0 : Int) < (h.length : Int) := by omega
      by_cases hm : (r.length : Int) < most
      · obtain ⟨h', x, hpl, hxl⟩ := popL_some hh
        have hpl' := Lib.hid hpl
        go_wp2_with fail
        refine (places_len _ _ _ _).mono ?_
        rintro e w2 ⟨rfl, rfl⟩
        go_wp2_with fail
        have hc := pop_any p g c h wr hO.heap (by omega) hh h' x hpl'.out
        refine hc.mono ?_
        rintro e w2 ⟨rfl, H2, hO2⟩
        clear hc
        have O2 := hO.popped H2 hO2 hp (by omega)
        have hrl : r.length < 1000000 := by omega
        have O3 := O2.kept (w1 := w2.alloc (.cells #[.int .i64 x.1, .int .i64 x.2] 73)) ((Below.refl _ _).alloc (Nat.le_refl _) _)
        have hBS : w.heap.size ≤ ((w2.alloc (.cells #[.int .i64 x.1, .int .i64 x.2] 73)).alloc (.cells #[.int .i64 x.1] 3)).heap.size := by have := O2.below.size; simp; omega
        go_wp2_with (at_builtin; refine wpList_append_own_at _ rfl _ _ 27 rfl w.heap.size 3 i0 (.int .i64 0) 1 8 Try.underlying27 hi hz0 hz1 hz2 rfl (by decide) _ r.length _ rfl (O3.own.alloc _) ⟨w2.heap.size + 1, 0, none⟩ 1 1 [.int .i64 x.1] rfl rfl (cell_one_new2 _ _ _ _) (by intro u hu; simp at hu; subst hu; rfl) (by unfold maxLen; omega) (by omega) hBS ?_; intro v' w4 hown' hgrow hnil hat; have O4 := (O3.kept ((Below.refl _ _).alloc (Nat.le_refl _) _)).more x.1 hown' hgrow hat; rcases hown'.slice (by omega) with ⟨g', c'', rfl⟩)
        go_roundw
        case rel =>
          refine ⟨h', r ++ [x.1], by rw [List.length_append, List.length_singleton]; omega, Lib.hid ?_, O4⟩
          have hT' := hT.out
          obtain ⟨f, hf⟩ : ∃ f, most.toNat - r.length = f + 1 := ⟨most.toNat - r.length - 1, by omega⟩
          rw [hf, takeTop_go hpl'.out] at hT'
          rw [List.length_append, List.length_singleton, List.append_assoc, List.singleton_append, show most.toNat - (r.length + 1) = f by omega]
          exact hT'
        case measure => simp only [sliceLen]; omega
      · go_wp2_with fail
        refine (places_len _ _ _ _).mono ?_
        rintro e w2 ⟨rfl, rfl⟩
        have hT' := hT.out
        rw [show most.toNat - r.length = 0 by omega, takeTop, List.append_nil] at hT'
        subst hT'
        go_wp2_with fail
        go_ret
        exact ⟨_, rfl, hO.own, hO.len, hO.below⟩
    · have h0' : h.length = 0 := by omega
      obtain rfl := List.eq_nil_of_length_eq_zero h0'
      have hT' := hT.out
      rw [takeTop_nil, List.append_nil] at hT'
      subst hT'
      go_wp2_with fail
      refine (places_len _ _ _ _).mono ?_
      rintro e w2 ⟨rfl, rfl⟩
      go_wp2_with fail
      go_ret
      exact ⟨_, rfl, hO.own, hO.len, hO.below⟩

set_option maxHeartbeats 1000000 in
theorem init_none (p : Nat) (w : World) (h : w.cell? ⟨p, 0, none⟩ = some (.slice none 0 0)) :
    Calls Try.prog 38 #[.iface 70 (.pointer (some ⟨p, 0, none⟩))] w fun e w' => e = .returned (.tuple #[]) ∧ w = w' := by
  have hLen := fun k a w => by_Len k a w
  go_enter Try.func38, Try.ntmps38
  go_wp2_with (go_at_call 34; refine (places_len _ _ _ _).mono ?_; rintro e w1 ⟨rfl, rfl⟩)
  go_loopw [3] (fun i wr => i = .int .i64 (-1) ∧ wr = w) (fun i _ => 0)
  case atStart => exact ⟨rfl, rfl⟩
  case round =>
    obtain ⟨rfl, rfl⟩ := hrel
    go_wp2_with fail
    go_end0
    exact ⟨rfl, rfl⟩
set_option maxHeartbeats 1000000 in
theorem heaped_none (ao : Option Addr) (cap : Nat) (w : World) :
    Calls Try.prog 33 #[.slice ao 0 cap] w fun e w' => e = .returned (.pointer (some ⟨w.heap.size, 0, none⟩)) ∧ w'.cell? ⟨w.heap.size, 0, none⟩ = some (.slice none 0 0) ∧ Below w.heap.size w w' := by
  go_enter Try.func33, Try.ntmps33
  go_wp2_with fail
  go_loopw [8] (fun i wr => i = .int .i64 0 ∧ wr = w.alloc (.cells #[.slice none 0 0] 80)) (fun i _ => 0)
  case atStart => exact ⟨rfl, rfl⟩
  case round =>
    obtain ⟨rfl, rfl⟩ := hrel
    go_wp2_with fail
    refine (init_none _ _ (by simp)).mono ?_
    rintro e w1 ⟨rfl, rfl⟩
    go_wp2_with fail
    go_ret
    exact ⟨rfl, by simp, (Below.refl _ _).alloc (Nat.le_refl _) _⟩
set_option maxHeartbeats 1000000 in
theorem top_none (ao : Option Addr) (cap : Nat) (most : Int) (w : World) :
    Calls Try.prog 25 #[.slice ao 0 cap, .int .i64 most] w fun e w' => e = .returned (.slice none 0 0) ∧ Below w.heap.size w w' := by
  go_enter Try.func25, Try.ntmps25
  go_wp2_with fail
  refine (heaped_none ao cap w).mono ?_
  rintro e w1 ⟨rfl, hc1, hb1⟩
  go_wp2_with fail
  go_loopw [6] (fun i wr => i = .slice none 0 0 ∧ wr = w1) (fun i _ => 0)
  case atStart => exact ⟨rfl, rfl⟩
  case round =>
    obtain ⟨rfl, rfl⟩ := hrel
    go_wp2_with fail
    refine (places_len _ _ _ _).mono ?_
    rintro e w2 ⟨rfl, rfl⟩
    go_wp2_with fail
    go_ret
    exact ⟨rfl, hb1⟩

/-- The order of the first ones of all counts. -/
def topL (l : List Int) (most : Nat) : List Int := takeTop most (initL l.length (l.length / 2) (pairs l))
theorem topL_nil (most : Nat) : topL [] most = [] := takeTop_nil most
/-- A row of the call's own that reads as ints. -/
structure Out (B : Nat) (v : Value) (r : List Int) (w : World) : Prop where
  own : w.ownsRow B 3 1 v r.length (intsV r)
  len : sliceLen v = r.length
theorem Out.form {B : Nat} {v : Value} {r : List Int} {w : World} (h : Out B v r w) : ∃ ao c, v = .slice ao r.length c ∧ IntsAt w ao r ∧ (r.length = 0 → v = .slice ao 0 c) ∧ ∀ a, ao = some a → B ≤ a.block := by
  rcases h.own.2 with ⟨e, hn⟩ | ⟨g, cap, cur, hv, hb, hg, _⟩
  · exact ⟨none, 0, by rw [e, hn], Or.inl (List.eq_nil_of_length_eq_zero hn), fun _ => e, fun a e => by simp at e⟩
  · subst hv
    refine ⟨_, cap, rfl, Or.inr ⟨g, 0, rfl, (Array.getElem?_eq_some_iff.1 hg).1, fun i hi j x hx => ?_⟩, fun h0 => by rw [h0], fun a e => by simp at e; subst e; exact hb⟩
    have hj : j = 0 := by
      have := (List.getElem?_eq_some_iff.1 hx).1
      simpa using this
    subst hj
    rw [show 0 + i * 1 + 0 = i by omega, h.own.cellAt i (by omega)]
    simpa [intsV, hi] using hx

theorem top_all (ao : Option Addr) (cap : Nat) (l : List Int) (most : Int) (w : World) (hs : IntsAt w ao l) (hl : l.length ≤ 1000000) :
    Calls Try.prog 25 #[.slice ao l.length cap, .int .i64 most] w fun e w' => ∃ v, e = .returned v ∧ Out w.heap.size v (topL l most.toNat) w' ∧ Below w.heap.size w w' := by
  by_cases h0 : 0 < l.length
  · refine (top_any ao cap l most w hs h0 hl).mono ?_
    rintro e w' ⟨v, rfl, h1, h2, h3⟩
    exact ⟨v, rfl, ⟨h1, h2⟩, h3⟩
  · obtain rfl : l = [] := List.eq_nil_of_length_eq_zero (by omega)
    refine (top_none ao cap most w).mono ?_
    rintro e w' ⟨rfl, h1⟩
    rw [topL_nil]
    exact ⟨_, rfl, ⟨World.ownsRow_nil _ _ _ _, rfl⟩, h1⟩

set_option maxHeartbeats 1000000 in
theorem order_all (ao : Option Addr) (cap : Nat) (l : List Int) (w : World) (hs : IntsAt w ao l) (hl : l.length ≤ 1000000) :
    Calls Try.prog 24 #[.slice ao l.length cap] w fun e w' => ∃ v, e = .returned v ∧ Out w.heap.size v (topL l l.length) w' ∧ Below w.heap.size w w' := by
  go_enter Try.func24, Try.ntmps24
  go_wp2_with fail
  refine (top_all ao cap l _ w hs hl).mono ?_
  rintro e w1 ⟨v, rfl, h1, h2⟩
  rw [Int.toNat_natCast] at h1
  go_wp2_with fail
  go_ret
  exact ⟨_, rfl, h1, h2⟩

set_option maxHeartbeats 1000000 in
theorem fullest_all (ao : Option Addr) (cap : Nat) (l : List Int) (w : World) (hs : IntsAt w ao l) (hl : l.length ≤ 1000000) (k : Nat) (hk : topL l 1 = [(k : Int)]) (hkl : k < l.length) :
    Calls Try.prog 21 #[.slice ao l.length cap] w fun e w' => e = .returned (if l[k] < 1 then .tuple #[.int .i64 0, .bool false] else .tuple #[.int .i64 k, .bool true]) ∧ Below w.heap.size w w' := by
  go_enter Try.func21, Try.ntmps21
  go_wp2_with fail
  refine (top_all ao cap l _ w hs hl).mono ?_
  rintro e w1 ⟨v, rfl, h1, h2⟩
  rw [show (1 : Int).toNat = 1 from rfl, hk] at h1
  obtain ⟨ao1, c1, rfl, hr1, _, _⟩ := h1.form
  obtain ⟨b, off, rfl, hb, hc⟩ := hr1.at (by simp)
  have hc0 := hc 0 (by simp) 0 _ rfl
  have hs1 := hs.kept h2 (Nat.le_refl _)
  obtain ⟨b2, off2, rfl, hb2, hc2⟩ := hs1.at (by omega)
  have hck := hc2 k hkl 0 _ rfl
  have hk0 : (0 : Int) ≤ (k : Int) := Int.natCast_nonneg _
  have hk1 : (k : Int) < (l.length : Int) := by omega
  simp only [List.getElem_cons_zero, Nat.add_zero, Nat.mul_one] at hc0 hck
  by_cases h : l[k] < 1
  · go_wp2_with fail
    go_ret2
    exact ⟨rfl, h2⟩
  · go_wp2_with fail
    go_ret2
    exact ⟨rfl, h2⟩
set_option maxHeartbeats 1000000 in
theorem fullest_none (ao : Option Addr) (cap : Nat) (w : World) :
    Calls Try.prog 21 #[.slice ao 0 cap] w fun e w' => e = .returned (.tuple #[.int .i64 0, .bool false]) ∧ Below w.heap.size w w' := by
  go_enter Try.func21, Try.ntmps21
  go_wp2_with fail
  refine (top_none ao cap 1 w).mono ?_
  rintro e w1 ⟨rfl, h2⟩
  go_wp2_with fail
  go_ret2
  exact ⟨rfl, h2⟩

end Go.Proofs.Ytfnjomhefklbiaa
