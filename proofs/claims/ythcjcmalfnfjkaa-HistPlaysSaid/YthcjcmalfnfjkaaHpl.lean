/-
  The walk of HistPlays.
-/
import Derived.Test.YthcjcmalfnfjkaaHrf
import Derived.Test.YthcjcmalfnfjkaaHiw
import Derived.Test.YthcjcmalfnfjkaaHig
import Derived.Test.YthcjcmalfnfjkaaHic
import Derived.Test.YthcjcmalfnfjkaaHof
import Derived.Test.YthcjcmalfnfjkaaZla
import Derived.Deep.RegionHeld3
import Derived.Deep.DrawnRows
namespace Go.Proofs.Ythcjcmalfnfjkaa
open Go.RowKit Go.Maps Go.WideShapes Go.Shelf
set_option linter.unusedVariables false
attribute [local go_sem ↓] Go.wp_at_zero Go.wp_at_succ

structure ActP where
  dv : Int
  nv : Int
  u : Upd
instance : Inhabited ActP := ⟨⟨0, 0, ⟨0, [], [], 0⟩⟩⟩
def ActP.cells (x : ActP) : List Value := [.int .i64 x.dv, .int .i64 x.nv, .int .u8 x.u.kind, .string (S x.u.key), .string (S x.u.val), .int .u64 x.u.delta]
structure ArgActs (w : World) (v : Value) (l : List ActP) : Prop where
  form : ∃ ao c, v = .slice ao l.length c ∧ SlAt ActP.cells 6 w ao l ∧ l.length ≤ c ∧ (c : Int) ≤ 9223372036854775807
  wf : ∀ x ∈ l, x.u.Wf
  size : ∀ x ∈ l, x.u.key.length ≤ 140737488355328 ∧ x.u.val.length ≤ 140737488355328
  ints : ∀ x ∈ l, (-9223372036854775808 ≤ x.dv ∧ x.dv ≤ 9223372036854775807) ∧ (-9223372036854775808 ≤ x.nv ∧ x.nv ≤ 9223372036854775807)
theorem SlAt.cells6 {w : World} {ao : Option Addr} {l : List ActP} (hs : SlAt ActP.cells 6 w ao l) (i : Nat) (hi : i < l.length) :
    ∃ b off, ao = some ⟨b, off, none⟩ ∧ b < w.heap.size ∧ w.cell? ⟨b, off + i * 6, none⟩ = some (.int .i64 l[i].dv) ∧ w.cell? ⟨b, off + i * 6 + 1, none⟩ = some (.int .i64 l[i].nv) ∧ w.cell? ⟨b, off + i * 6 + 2, none⟩ = some (.int .u8 l[i].u.kind) ∧ w.cell? ⟨b, off + i * 6 + 3, none⟩ = some (.string (S l[i].u.key)) ∧ w.cell? ⟨b, off + i * 6 + 4, none⟩ = some (.string (S l[i].u.val)) ∧ w.cell? ⟨b, off + i * 6 + 5, none⟩ = some (.int .u64 l[i].u.delta) := by
  obtain ⟨b, off, rfl, hb, hc⟩ := hs.at (by omega)
  exact ⟨b, off, rfl, hb, hc i hi 0 _ rfl, hc i hi 1 _ rfl, hc i hi 2 _ rfl, hc i hi 3 _ rfl, hc i hi 4 _ rfl, hc i hi 5 _ rfl⟩
theorem takeA {w : World} {ao : Option Addr} {l : List ActP} (h : SlAt ActP.cells 6 w ao l) (n : Nat) : SlAt ActP.cells 6 w ao (l.take n) := by
  rcases h with rfl | ⟨b, off, e, hb, hc⟩
  · exact Or.inl (by simp)
  · refine Or.inr ⟨b, off, e, hb, fun i hi j x hx => hc i (by rw [List.length_take] at hi; omega) j x ?_⟩
    rw [List.getElem_take] at hx
    exact hx
theorem underA : Try.prog.underlying 22 = some (.slice (Try.prog.elem 22)) := by rw [show Try.prog.elem 22 = 31 by kernel_rfl]; exact Try.underlying22
theorem sizeElemA (w : World) : (sizeOf (Try.prog.elem 22)).run Try.prog w = .ok 6 w := by kernel_rfl
theorem cut_A (ao : Option Addr) (n c i : Nat) (hin : i ≤ n) (hnc : n ≤ c) (w : World) : (Instr.slice 22 (.slice ao n c) none (some (.int .i64 (i : Int))) none).run Try.prog w = .ok (.slice ao i c) w := by
  rw [run_slice_h w 22 ao n c underA .i64 i (by omega) (by omega)]
  rw [sizeElemA]
  have e : ao.map (·.add 0) = ao := by cases ao <;> simp [Addr.add]
  simp [Result.andThen, sliced, e]
/-- The keys of what updates make are theirs. -/
theorem onE_short {l : List Ent} (hr : Rising Ent.key l) (u : Upd) (hl : ∀ e ∈ l, e.key.length ≤ 2) (hu : u.key.length ≤ 2) : ∀ e ∈ onE l u, e.key.length ≤ 2 := by
  intro e he
  have h1 := lookE_mem (onE_rising hr u) e he
  rw [onE_look hr u] at h1
  by_cases hk : e.key = u.key
  · rw [hk]; exact hu
  · rw [if_neg hk] at h1
    exact hl _ (mem_lookE h1)
theorem onAll_short (us : List Upd) (h : ∀ u ∈ us, u.key.length ≤ 2) : ∀ e ∈ onAll [] us, e.key.length ≤ 2 := by
  have key : ∀ (us : List Upd) (l : List Ent), Rising Ent.key l → (∀ e ∈ l, e.key.length ≤ 2) → (∀ u ∈ us, u.key.length ≤ 2) → ∀ e ∈ onAll l us, e.key.length ≤ 2 := by
    intro us
    induction us with
    | nil => intro l _ hl _; exact hl
    | cons u us ih =>
      intro l hr hl hu
      exact ih (onE l u) (onE_rising hr u) (onE_short hr u hl (hu u (by simp))) (fun x hx => hu x (by simp [hx]))
  exact key us [] List.Pairwise.nil (fun e he => by simp at he) h
theorem preF_none {all : List Upd} {y : List Ent} (h : ∀ k, onAll [] (all.take k) ≠ y) : ∀ f n, preF all y f n = (0, false)
  | 0, n => preF_end (h n)
  | f + 1, n => by rw [preF_next (h n)]; exact preF_none h f (n + 1)
theorem ofH_short (u : Upd) : (ofH u).key.length ≤ 2 := by
  show ((u.key ++ [107]).take (min (u.key.length + 1) 2)).length ≤ 2
  rw [List.length_take]; omega
theorem errU_14 {l : List Ent} {u : Upd} (hc : u.check = 0) (h : errU l u ≠ 0) : errU l u = 14 := by
  unfold errU at h ⊢
  rw [if_neg (by simp [hc])] at h ⊢
  split at h
  · rename_i h1; rw [if_pos h1]
  · exact absurd rfl h
theorem made_of (ao : Option Addr) (c : Nat) (us : List Upd) (n : Nat) (w : World) (hn : us.length = n) (hs : SlAt Upd.cells 4 w ao us) (hw : ∀ u ∈ us, u.Wf) (hl : us.length ≤ 900) :
    Calls Try.prog 16 #[.slice ao n c] w fun e w' => (∃ a c', e = .returned (.slice a (onAll [] us).length c') ∧ SlAt Ent.cells 2 w' a (onAll [] us)) ∧ Below w.heap.size w w' := by
  subst hn
  refine (made_any ao c us w hs hw hl).mono ?_
  rintro e w' ⟨⟨a, c', he, hse⟩, hb⟩
  obtain ⟨a1, c1, e1, h1, -⟩ := hse.form
  simp only [Value.slice.injEq] at e1
  obtain ⟨rfl, -, rfl⟩ := e1
  exact ⟨⟨a, c', he, h1⟩, hb⟩
theorem duo_add (B h : Nat) (all : List Upd) (last : Nat) (a : Option Addr) (n c : Nat) (u : Upd) (w0 wp w : World) (hb : Below B w0 w) (hB : B ≤ w.heap.size) (Hp : Duo wp B h all last a n c all) (hm : Below wp.heap.size wp w) (hu : u.Wf) (hlen : all.length < 1000) :
    Calls Try.prog 17 #[.pointer (some ⟨h, 0, none⟩), .agg #[.int .u8 u.kind, .string (S u.key), .string (S u.val), .int .u64 u.delta]] w fun e w' => e = .returned (.int .i64 (errU (onAll [] all) u : Nat)) ∧ Duo w' B h (if errU (onAll [] all) u = 0 then all ++ [u] else all) last a n c all ∧ Below B w0 w' ∧ ∀ g o v, wp.heap.size ≤ g → w.cell? ⟨g, o, none⟩ = some v → w'.cell? ⟨g, o, none⟩ = some v := by
  have H := Hp.below hm
  obtain ⟨S, ah, ch, p, b, h1, h2, h3⟩ := Hp.ex
  have h1' := h1.below hm
  refine (hisAdd_any S h ah ch p b all last u w h1' hu hlen).mono ?_
  rintro e w' ⟨he, hn, ho⟩
  exact ⟨he, H.turn ⟨h1'.lt, h2, h3⟩ hB ho hn, ho.below hb h2 hB, fun g o v hg hc => ho.cell hc (fun hs => by have := h1.lt g hs; omega)⟩
theorem duo_sync (B h : Nat) (all : List Upd) (last : Nat) (a : Option Addr) (n c : Nat) (w0 w : World) (hb : Below B w0 w) (hB : B ≤ w.heap.size) (H : Duo w B h all last a n c all) :
    Calls Try.prog 12 #[.pointer (some ⟨h, 0, none⟩)] w fun e w' => e = .returned (.tuple #[]) ∧ Duo w' B h all all.length a n c all ∧ Below B w0 w' := by
  obtain ⟨S, ah, ch, p, b, h1, h2, h3⟩ := H.ex
  refine (hisSync_any S h ah ch p b all last w h1).mono ?_
  rintro e w' ⟨he, hn, ho⟩
  exact ⟨he, H.turn ⟨h1.lt, h2, h3⟩ hB ho ⟨S, ah, ch, hn, fun i hi => Or.inl hi⟩, ho.below hb h2 hB⟩
theorem duo_cut (B h : Nat) (all : List Upd) (last k : Nat) (a : Option Addr) (n c : Nat) (w0 w : World) (hb : Below B w0 w) (hB : B ≤ w.heap.size) (H : Duo w B h all last a n c all) (k1 : last ≤ k) (k2 : k ≤ all.length) :
    Calls Try.prog 13 #[.pointer (some ⟨h, 0, none⟩), .int .i64 (k : Nat)] w fun e w' => e = .returned (.int .i64 0) ∧ Duo w' B h (all.take k) k a k k (all.take k) ∧ Below B w0 w' := by
  obtain ⟨S, ah, ch, p, b, h1, h2, h3⟩ := H.ex
  refine (hisCut_any S h ah ch p b all last k w h1 k1 k2).mono ?_
  rintro e w' ⟨he, ⟨p', b', hn⟩, ho⟩
  have H2 := H.turn ⟨h1.lt, h2, h3⟩ hB ho hn
  obtain ⟨r1, r2⟩ := H2.row.cut H2.len k (by rw [← H2.len]; exact k2)
  exact ⟨he, ⟨let ⟨S', a', c', p1, b1, g1, g2, g3⟩ := H2.ex; ⟨S', a', c', p1, b1, g1, g2, fun i hi => g3 i (r2 i hi)⟩, r1, by rw [List.length_take]; omega⟩, ho.below hb h2 hB⟩
theorem duo_cut_no (B h : Nat) (all : List Upd) (last : Nat) (k : Int) (a : Option Addr) (n c : Nat) (w : World) (H : Duo w B h all last a n c all) (hk : ¬ ((last : Int) ≤ k ∧ k ≤ (all.length : Int))) :
    Calls Try.prog 13 #[.pointer (some ⟨h, 0, none⟩), .int .i64 k] w fun e w' => e = .returned (.int .i64 3) ∧ Below w.heap.size w w' := by
  obtain ⟨S, ah, ch, p, b, h1⟩ := H.his
  exact hisCut_no S h ah ch p b all last k w h1 (by omega)
theorem duo_len (B h : Nat) (all : List Upd) (last : Nat) (a : Option Addr) (n c : Nat) (w : World) (H : Duo w B h all last a n c all) :
    Calls Try.prog 18 #[.pointer (some ⟨h, 0, none⟩)] w fun e w' => e = .returned (.tuple #[.int .i64 (n : Nat), .int .i64 (last : Nat)]) ∧ Below w.heap.size w w' := by
  obtain ⟨S0, a, c, p, b, h1⟩ := H.his
  have := hisLen_any S0 h a c p b all last w h1
  rw [H.len] at this
  exact this
theorem duo_now (B h : Nat) (all : List Upd) (last : Nat) (a : Option Addr) (n c : Nat) (w : World) (H : Duo w B h all last a n c all) :
    Calls Try.prog 19 #[.pointer (some ⟨h, 0, none⟩)] w fun e w' => (∃ p' b', e = .returned (.pointer (some ⟨p', 0, none⟩)) ∧ w.heap.size ≤ p' ∧ w.heap.size ≤ b' ∧ ModAt w' p' b' (onAll [] all)) ∧ Below w.heap.size w w' := by
  obtain ⟨S0, a, c, p, b, h1⟩ := H.his
  exact hisNow_any S0 h a c p b all last w h1
theorem duo_pre (B h : Nat) (all : List Upd) (last : Nat) (a : Option Addr) (n c : Nat) (a2 : Option Addr) (c2 m : Nat) (y : List Ent) (w : World) (H : Duo w B h all last a n c all) (hn : y.length = m) (hy : SlAt Ent.cells 2 w a2 y) (hly : y.length ≤ 1000000) :
    Calls Try.prog 23 #[.pointer (some ⟨h, 0, none⟩), .slice a2 m c2] w fun e w' => e = .returned (.tuple #[.int .i64 ((preL all last y).1 : Nat), .bool (preL all last y).2]) ∧ Below w.heap.size w w' := by
  subst hn
  obtain ⟨S0, a, c, p, b, h1⟩ := H.his
  exact hisPre_any S0 h a c p b all last a2 c2 y w h1 hy hly

set_option maxRecDepth 100000 in
set_option maxHeartbeats 16000000 in
theorem histPlays_walk (v : Value) (l : List ActP) (w : World) (hl : ArgActs w v l) :
    Calls Try.prog 3 #[v] w fun e w' => e = .returned (.bool true) ∧ Below w.heap.size w w' := by
  obtain ⟨⟨ao, c, rfl, hsl, hc1, hc2⟩, hwf, hsize, hints⟩ := hl
  have hmin := fun ts t a b w => run_tmin (P := Try.prog) ts t a b w
  have hmax := fun ts t a b w => run_bmax (P := Try.prog) ts t a b w
  have hm1 : tmin (l.length : Int) 40 = ((min l.length 40 : Nat) : Int) := tmin_nat l.length 40
  obtain ⟨m, hm⟩ : ∃ m, m = min l.length 40 := ⟨_, rfl⟩
  rw [← hm] at hm1
  have hcut := fun w => cut_A ao l.length c m (by omega) hc1 w
  obtain ⟨L, hL⟩ : ∃ L, L = l.take m := ⟨_, rfl⟩
  have hLm : L.length = m := by rw [hL, List.length_take]; omega
  have HL := Lib.hid (show SlAt ActP.cells 6 w ao L by rw [hL]; exact takeA hsl m)
  have HW := Lib.hid (show ∀ x ∈ L, x.u.Wf by rw [hL]; exact fun u hu => hwf u (List.mem_of_mem_take hu))
  have HZ := Lib.hid (show ∀ x ∈ L, x.u.key.length ≤ 140737488355328 ∧ x.u.val.length ≤ 140737488355328 by rw [hL]; exact fun u hu => hsize u (List.mem_of_mem_take hu))
  have HI := Lib.hid (show ∀ x ∈ L, (-9223372036854775808 ≤ x.dv ∧ x.dv ≤ 9223372036854775807) ∧ (-9223372036854775808 ≤ x.nv ∧ x.nv ≤ 9223372036854775807) by rw [hL]; exact fun u hu => hints u (List.mem_of_mem_take hu))
  have hm40 : m ≤ 40 := by omega
  clear hwf hsize hsl hL hints
  have HLm := Lib.hid hLm
  clear hLm hm
  go_enter Try.func3, Try.ntmps3
  go_wp2_with fail
  refine (hisNew_any w).mono ?_
  rintro e w1 ⟨rfl, h1, hB1⟩
  obtain ⟨h, hh⟩ : ∃ h, h = w.heap.size + 2 := ⟨_, rfl⟩
  rw [← hh] at h1 ⊢
  have H1 := Lib.hid (show Duo w1 w.heap.size h [] 0 none 0 0 [] from ⟨⟨_, _, _, _, _, h1, fun i hi => hi.1, fun k e => by simp [Value.ownBlock] at e⟩, Or.inl (World.ownsRow_nil _ _ _ _), rfl⟩)
  have HB1 := Lib.hid hB1
  clear h1 hB1 hh
  go_wp2_with fail
  refine (wakes29 w1).mono ?_
  rintro e w2 ⟨rfl, hB2⟩
  have H2 := Lib.hid (H1.out.below hB2)
  have HB2 := Lib.hid (HB1.out.trans (hB2.mono HB1.out.size))
  clear hB2 H1 HB1
  go_wp2_with fail
  go_loopw [38, 4, 5] (fun i v4 v5 wr => ∃ (j : Nat) (all : List Upd) (last : Nat) (a : Option Addr) (n c' : Nat), i = .int .i64 j ∧ j ≤ m ∧ v4 = .slice a n c' ∧ v5 = .int .i64 (last : Nat) ∧ n ≤ j ∧ Hid (Duo wr w.heap.size h all last a n c' all) ∧ Hid (∀ u ∈ all, u.key.length ≤ 2) ∧ Below w.heap.size w wr) (fun i _ _ _ => m - (intOf i).toNat)
  case atStart => exact ⟨0, [], 0, none, 0, 0, rfl, Nat.zero_le _, rfl, rfl, Nat.le_refl _, H2.out, Lib.hid (fun u hu => by simp at hu), HB2.out⟩
  case round =>
    obtain ⟨j, all, last, a, n, c', rfl, hj, rfl, rfl, hnj, HD, HS, hB⟩ := hrel
    have hj0 : (0 : Int) ≤ (j : Int) := Int.natCast_nonneg _
    have hzr := hB.size
    by_cases hjm : j < m
    · have hj1 : (j : Int) < (m : Int) := by omega
      have hjl : j < L.length := by rw [HLm.out]; exact hjm
      obtain ⟨b, off, ea, hb, t0, t1, t2, t3, t4, t5⟩ := SlAt.cells6 HL.out j hjl
      subst ea
      have q0 := (cell_below hB hb _).trans t0
      have q1 := (cell_below hB hb _).trans t1
      have q2 := (cell_below hB hb _).trans t2
      have q3 := (cell_below hB hb _).trans t3
      have q4 := (cell_below hB hb _).trans t4
      have q5 := (cell_below hB hb _).trans t5
      have hwf := HW.out _ (List.getElem_mem hjl)
      have hsz := HZ.out _ (List.getElem_mem hjl)
      have hin := HI.out _ (List.getElem_mem hjl)
      clear t0 t1 t2 t3 t4 t5
      generalize L[j] = x at *
      go_upto_region 9 with (fail)
      have hX : Below wr.heap.size wr (wr.alloc (.cells #[.int .i64 x.dv, .int .i64 x.nv, .int .u8 x.u.kind, .string (S x.u.key), .string (S x.u.val), .int .u64 x.u.delta] 31)) := by go_grown
      obtain ⟨wz, hwz⟩ : ∃ wz, wz = wr.alloc (.cells #[.int .i64 x.dv, .int .i64 x.nv, .int .u8 x.u.kind, .string (S x.u.key), .string (S x.u.val), .int .u64 x.u.delta] 31) := ⟨_, rfl⟩
      have z0 : wz.cell? ⟨wr.heap.size, 0, none⟩ = some (.int .i64 x.dv) := by rw [hwz, World.cell?_alloc_at _ _ _ _ rfl]; rfl
      have z1 : wz.cell? ⟨wr.heap.size, 1, none⟩ = some (.int .i64 x.nv) := by rw [hwz, World.cell?_alloc_at _ _ _ _ rfl]; rfl
      have z2 : wz.cell? ⟨wr.heap.size, 2, none⟩ = some (.int .u8 x.u.kind) := by rw [hwz, World.cell?_alloc_at _ _ _ _ rfl]; rfl
      have z3 : wz.cell? ⟨wr.heap.size, 3, none⟩ = some (.string (S x.u.key)) := by rw [hwz, World.cell?_alloc_at _ _ _ _ rfl]; rfl
      have z4 : wz.cell? ⟨wr.heap.size, 4, none⟩ = some (.string (S x.u.val)) := by rw [hwz, World.cell?_alloc_at _ _ _ _ rfl]; rfl
      have z5 : wz.cell? ⟨wr.heap.size, 5, none⟩ = some (.int .u64 x.u.delta) := by rw [hwz, World.cell?_alloc_at _ _ _ _ rfl]; rfl
      rw [← hwz] at hX ⊢
      have HDz := Lib.hid (HD.out.below hX)
      have HBz := Lib.hid (hB.trans (hX.mono hzr))
      clear hwz q0 q1 q2 q3 q4 q5 hX
      obtain ⟨kk, hkk⟩ : ∃ kk : Int, kk = (bmax 0 x.dv).tmod 7 := ⟨_, rfl⟩
      have hkb : 0 ≤ kk ∧ kk < 7 := by
        have : 0 ≤ bmax 0 x.dv := by unfold bmax; split <;> omega
        rw [hkk, Int.tmod_eq_emod_of_nonneg this]; omega
      have hwk : IntKind.i64.wrap kk = kk := IntWalk.i64_in _ (by omega)
      have hkk' := hkk.symm
      clear hkk
      by_cases hk5 : kk = 5
      · subst hk5
        have hln := HDz.out.len
        go_wp2_with fail
        refine (duo_sync w.heap.size h all last a n c' w wz HBz.out HBz.out.size HDz.out).mono ?_
        rintro e w3 ⟨rfl, g3, hB3⟩
        rw [hln] at g3
        have G3 := Lib.hid g3
        have HB3 := Lib.hid hB3
        clear g3 hB3 HDz HBz

        go_wp2_with fail
        refine (duo_len w.heap.size h (all) (n) a (n) c' w3 G3.out).mono ?_
        rintro e v1 ⟨rfl, hV⟩
        have V1 := Lib.hid (G3.out.below hV)
        have VB1 := Lib.hid (HB3.out.trans (hV.mono HB3.out.size))
        clear hV
        go_wp2_with fail
        refine (duo_now w.heap.size h (all) (n) a (n) c' v1 V1.out).mono ?_
        rintro e v2 ⟨⟨p', b', rfl, -, -, hm'⟩, hV⟩
        have M2 := Lib.hid hm'
        have V2 := Lib.hid (V1.out.below hV)
        have VB2 := Lib.hid (VB1.out.trans (hV.mono VB1.out.size))
        clear hV hm' V1 VB1
        go_wp2_with fail
        refine (made_of a c' (all) (n) v2 V2.out.len V2.out.sl (fun u hu => (V2.out.wf.1 u hu).1) (by rw [V2.out.len]; omega)).mono ?_
        rintro e v3 ⟨⟨ma, mc, rfl, hms⟩, hV⟩
        have N3 := Lib.hid hms
        have M3 := Lib.hid (M2.out.below hV)
        have V3 := Lib.hid (V2.out.below hV)
        have VB3 := Lib.hid (VB2.out.trans (hV.mono VB2.out.size))
        have hfit := (onAll_fit (all)).2.2
        rw [V3.out.len] at hfit
        clear hV hms V2 VB2 M2
        go_wp2_with fail
        refine (entries_any ma mc _ v3 N3.out (by omega)).mono ?_
        rintro e v4 ⟨⟨v, rfl, hrow⟩, hV⟩
        obtain ⟨hn', hse⟩ := SlE.of_own hrow
        obtain ⟨ea, ec, rfl, hes, -⟩ := hse
        have N4 := Lib.hid hes
        have M4 := Lib.hid (M3.out.below hV)
        have V4 := Lib.hid (V3.out.below hV)
        have VB4 := Lib.hid (VB3.out.trans (hV.mono VB3.out.size))
        clear hV V3 VB3 M3 N3 hrow hes hn'
        go_wp2_with fail
        refine (modEq_any p' b' _ ea ec _ v4 M4.out N4.out (by omega) (by omega)).mono ?_
        rintro e v5 ⟨rfl, hV⟩
        rw [show decide (onAll [] (all) = onAll [] (all)) = true by simp]
        have V5 := Lib.hid (V4.out.below hV)
        have VB5 := Lib.hid (VB4.out.trans (hV.mono VB4.out.size))
        clear hV V4 VB4 M4 N4
        go_wp2_with fail
        exact ⟨⟨j + 1, all, n, a, n, c', by go_num, by omega, rfl, rfl, by omega, V5.out, HS, VB5.out⟩, by simp [intOf]; omega⟩
      · by_cases hk6 : kk = 6
        · subst hk6
          by_cases hpos : 0 < x.nv
          · obtain ⟨nn, hnn⟩ : ∃ nn, nn = x.nv.tmod 30 := ⟨_, rfl⟩
            have hn1 : x.nv.tmod 30 = nn := hnn.symm
            have hn2 : x.nv % 30 = nn := by rw [hnn, Int.tmod_eq_emod_of_nonneg (by omega)]
            have hnb : 0 ≤ nn ∧ nn < 30 := by omega
            have hwn : IntKind.i64.wrap nn = nn := IntWalk.i64_in _ (by omega)
            clear hnn
            go_upto_region 24 with (fail)
            clear hn1 hn2 hwn
            by_cases hmay : (last : Int) ≤ nn ∧ nn ≤ (n : Int)
            · obtain ⟨k, hk⟩ := Int.eq_ofNat_of_zero_le (show 0 ≤ nn by omega)
              subst hk
              obtain ⟨m1, m2⟩ := hmay
              have m1' : ¬ (k : Int) < (last : Int) := by omega
              have m2' : ¬ (n : Int) < (k : Int) := by omega
              have hk1 : last ≤ k := by omega
              have hk2 : k ≤ n := by omega
              have hcp := HDz.out.row.cap
              have hc3 := fun w => cut_V3 a n c' k hk2 hcp.1 w
              go_wp2_with fail
              refine (duo_cut w.heap.size h all last k a n c' w wz HBz.out HBz.out.size HDz.out hk1 (by rw [HDz.out.len]; exact hk2)).mono ?_
              rintro e w3 ⟨rfl, g3, hB3⟩
              have G3 := Lib.hid g3
              have HB3 := Lib.hid hB3
              have HS3 := Lib.hid (show ∀ u ∈ all.take k, u.key.length ≤ 2 from fun u hu => HS.out u (List.mem_of_mem_take hu))
              clear g3 hB3 HDz HBz hcp
              go_wp2_with fail
              refine (duo_len w.heap.size h (all.take k) (k) a (k) k w3 G3.out).mono ?_
              rintro e v1 ⟨rfl, hV⟩
              have V1 := Lib.hid (G3.out.below hV)
              have VB1 := Lib.hid (HB3.out.trans (hV.mono HB3.out.size))
              clear hV
              go_wp2_with fail
              refine (duo_now w.heap.size h (all.take k) (k) a (k) k v1 V1.out).mono ?_
              rintro e v2 ⟨⟨p', b', rfl, -, -, hm'⟩, hV⟩
              have M2 := Lib.hid hm'
              have V2 := Lib.hid (V1.out.below hV)
              have VB2 := Lib.hid (VB1.out.trans (hV.mono VB1.out.size))
              clear hV hm' V1 VB1
              go_wp2_with fail
              refine (made_of a k (all.take k) (k) v2 V2.out.len V2.out.sl (fun u hu => (V2.out.wf.1 u hu).1) (by rw [V2.out.len]; omega)).mono ?_
              rintro e v3 ⟨⟨ma, mc, rfl, hms⟩, hV⟩
              have N3 := Lib.hid hms
              have M3 := Lib.hid (M2.out.below hV)
              have V3 := Lib.hid (V2.out.below hV)
              have VB3 := Lib.hid (VB2.out.trans (hV.mono VB2.out.size))
              have hfit := (onAll_fit (all.take k)).2.2
              rw [V3.out.len] at hfit
              clear hV hms V2 VB2 M2
              go_wp2_with fail
              refine (entries_any ma mc _ v3 N3.out (by omega)).mono ?_
              rintro e v4 ⟨⟨v, rfl, hrow⟩, hV⟩
              obtain ⟨hn', hse⟩ := SlE.of_own hrow
              obtain ⟨ea, ec, rfl, hes, -⟩ := hse
              have N4 := Lib.hid hes
              have M4 := Lib.hid (M3.out.below hV)
              have V4 := Lib.hid (V3.out.below hV)
              have VB4 := Lib.hid (VB3.out.trans (hV.mono VB3.out.size))
              clear hV V3 VB3 M3 N3 hrow hes hn'
              go_wp2_with fail
              refine (modEq_any p' b' _ ea ec _ v4 M4.out N4.out (by omega) (by omega)).mono ?_
              rintro e v5 ⟨rfl, hV⟩
              rw [show decide (onAll [] (all.take k) = onAll [] (all.take k)) = true by simp]
              have V5 := Lib.hid (V4.out.below hV)
              have VB5 := Lib.hid (VB4.out.trans (hV.mono VB4.out.size))
              clear hV V4 VB4 M4 N4
              go_wp2_with fail
              exact ⟨⟨j + 1, all.take k, k, a, k, k, by go_num, by omega, rfl, rfl, by omega, V5.out, HS3, VB5.out⟩, by simp [intOf]; omega⟩
            · have hno : ¬ ((last : Int) ≤ nn ∧ nn ≤ (all.length : Int)) := by rw [HDz.out.len]; exact hmay
              by_cases hlt : nn < (last : Int)
              · go_wp2_with fail
                refine (duo_cut_no w.heap.size h all last nn a n c' wz HDz.out hno).mono ?_
                rintro e w3 ⟨rfl, hB3⟩
                have G3 := Lib.hid (HDz.out.below hB3)
                have HB3 := Lib.hid (HBz.out.trans (hB3.mono HBz.out.size))
                clear hB3 HDz HBz hno hmay
                go_wp2_with fail
                refine (duo_len w.heap.size h (all) (last) a (n) c' w3 G3.out).mono ?_
                rintro e v1 ⟨rfl, hV⟩
                have V1 := Lib.hid (G3.out.below hV)
                have VB1 := Lib.hid (HB3.out.trans (hV.mono HB3.out.size))
                clear hV
                go_wp2_with fail
                refine (duo_now w.heap.size h (all) (last) a (n) c' v1 V1.out).mono ?_
                rintro e v2 ⟨⟨p', b', rfl, -, -, hm'⟩, hV⟩
                have M2 := Lib.hid hm'
                have V2 := Lib.hid (V1.out.below hV)
                have VB2 := Lib.hid (VB1.out.trans (hV.mono VB1.out.size))
                clear hV hm' V1 VB1
                go_wp2_with fail
                refine (made_of a c' (all) (n) v2 V2.out.len V2.out.sl (fun u hu => (V2.out.wf.1 u hu).1) (by rw [V2.out.len]; omega)).mono ?_
                rintro e v3 ⟨⟨ma, mc, rfl, hms⟩, hV⟩
                have N3 := Lib.hid hms
                have M3 := Lib.hid (M2.out.below hV)
                have V3 := Lib.hid (V2.out.below hV)
                have VB3 := Lib.hid (VB2.out.trans (hV.mono VB2.out.size))
                have hfit := (onAll_fit (all)).2.2
                rw [V3.out.len] at hfit
                clear hV hms V2 VB2 M2
                go_wp2_with fail
                refine (entries_any ma mc _ v3 N3.out (by omega)).mono ?_
                rintro e v4 ⟨⟨v, rfl, hrow⟩, hV⟩
                obtain ⟨hn', hse⟩ := SlE.of_own hrow
                obtain ⟨ea, ec, rfl, hes, -⟩ := hse
                have N4 := Lib.hid hes
                have M4 := Lib.hid (M3.out.below hV)
                have V4 := Lib.hid (V3.out.below hV)
                have VB4 := Lib.hid (VB3.out.trans (hV.mono VB3.out.size))
                clear hV V3 VB3 M3 N3 hrow hes hn'
                go_wp2_with fail
                refine (modEq_any p' b' _ ea ec _ v4 M4.out N4.out (by omega) (by omega)).mono ?_
                rintro e v5 ⟨rfl, hV⟩
                rw [show decide (onAll [] (all) = onAll [] (all)) = true by simp]
                have V5 := Lib.hid (V4.out.below hV)
                have VB5 := Lib.hid (VB4.out.trans (hV.mono VB4.out.size))
                clear hV V4 VB4 M4 N4
                go_wp2_with fail
                exact ⟨⟨j + 1, all, last, a, n, c', by go_num, by omega, rfl, rfl, by omega, V5.out, HS, VB5.out⟩, by simp [intOf]; omega⟩
              · have hgt : (n : Int) < nn := by omega
                go_wp2_with fail
                refine (duo_cut_no w.heap.size h all last nn a n c' wz HDz.out hno).mono ?_
                rintro e w3 ⟨rfl, hB3⟩
                have G3 := Lib.hid (HDz.out.below hB3)
                have HB3 := Lib.hid (HBz.out.trans (hB3.mono HBz.out.size))
                clear hB3 HDz HBz hno hmay
                go_wp2_with fail
                refine (duo_len w.heap.size h (all) (last) a (n) c' w3 G3.out).mono ?_
                rintro e v1 ⟨rfl, hV⟩
                have V1 := Lib.hid (G3.out.below hV)
                have VB1 := Lib.hid (HB3.out.trans (hV.mono HB3.out.size))
                clear hV
                go_wp2_with fail
                refine (duo_now w.heap.size h (all) (last) a (n) c' v1 V1.out).mono ?_
                rintro e v2 ⟨⟨p', b', rfl, -, -, hm'⟩, hV⟩
                have M2 := Lib.hid hm'
                have V2 := Lib.hid (V1.out.below hV)
                have VB2 := Lib.hid (VB1.out.trans (hV.mono VB1.out.size))
                clear hV hm' V1 VB1
                go_wp2_with fail
                refine (made_of a c' (all) (n) v2 V2.out.len V2.out.sl (fun u hu => (V2.out.wf.1 u hu).1) (by rw [V2.out.len]; omega)).mono ?_
                rintro e v3 ⟨⟨ma, mc, rfl, hms⟩, hV⟩
                have N3 := Lib.hid hms
                have M3 := Lib.hid (M2.out.below hV)
                have V3 := Lib.hid (V2.out.below hV)
                have VB3 := Lib.hid (VB2.out.trans (hV.mono VB2.out.size))
                have hfit := (onAll_fit (all)).2.2
                rw [V3.out.len] at hfit
                clear hV hms V2 VB2 M2
                go_wp2_with fail
                refine (entries_any ma mc _ v3 N3.out (by omega)).mono ?_
                rintro e v4 ⟨⟨v, rfl, hrow⟩, hV⟩
                obtain ⟨hn', hse⟩ := SlE.of_own hrow
                obtain ⟨ea, ec, rfl, hes, -⟩ := hse
                have N4 := Lib.hid hes
                have M4 := Lib.hid (M3.out.below hV)
                have V4 := Lib.hid (V3.out.below hV)
                have VB4 := Lib.hid (VB3.out.trans (hV.mono VB3.out.size))
                clear hV V3 VB3 M3 N3 hrow hes hn'
                go_wp2_with fail
                refine (modEq_any p' b' _ ea ec _ v4 M4.out N4.out (by omega) (by omega)).mono ?_
                rintro e v5 ⟨rfl, hV⟩
                rw [show decide (onAll [] (all) = onAll [] (all)) = true by simp]
                have V5 := Lib.hid (V4.out.below hV)
                have VB5 := Lib.hid (VB4.out.trans (hV.mono VB4.out.size))
                clear hV V4 VB4 M4 N4
                go_wp2_with fail
                exact ⟨⟨j + 1, all, last, a, n, c', by go_num, by omega, rfl, rfl, by omega, V5.out, HS, VB5.out⟩, by simp [intOf]; omega⟩
          · obtain ⟨nn, hnn⟩ : ∃ nn, nn = x.nv := ⟨_, rfl⟩
            rw [← hnn] at z1 hpos hin
            clear hnn
            go_upto_region 24 with (fail)
            by_cases hmay : (last : Int) ≤ nn ∧ nn ≤ (n : Int)
            · obtain ⟨k, hk⟩ := Int.eq_ofNat_of_zero_le (show 0 ≤ nn by omega)
              subst hk
              obtain ⟨m1, m2⟩ := hmay
              have m1' : ¬ (k : Int) < (last : Int) := by omega
              have m2' : ¬ (n : Int) < (k : Int) := by omega
              have hk1 : last ≤ k := by omega
              have hk2 : k ≤ n := by omega
              have hcp := HDz.out.row.cap
              have hc3 := fun w => cut_V3 a n c' k hk2 hcp.1 w
              go_wp2_with fail
              refine (duo_cut w.heap.size h all last k a n c' w wz HBz.out HBz.out.size HDz.out hk1 (by rw [HDz.out.len]; exact hk2)).mono ?_
              rintro e w3 ⟨rfl, g3, hB3⟩
              have G3 := Lib.hid g3
              have HB3 := Lib.hid hB3
              have HS3 := Lib.hid (show ∀ u ∈ all.take k, u.key.length ≤ 2 from fun u hu => HS.out u (List.mem_of_mem_take hu))
              clear g3 hB3 HDz HBz hcp
              go_wp2_with fail
              refine (duo_len w.heap.size h (all.take k) (k) a (k) k w3 G3.out).mono ?_
              rintro e v1 ⟨rfl, hV⟩
              have V1 := Lib.hid (G3.out.below hV)
              have VB1 := Lib.hid (HB3.out.trans (hV.mono HB3.out.size))
              clear hV
              go_wp2_with fail
              refine (duo_now w.heap.size h (all.take k) (k) a (k) k v1 V1.out).mono ?_
              rintro e v2 ⟨⟨p', b', rfl, -, -, hm'⟩, hV⟩
              have M2 := Lib.hid hm'
              have V2 := Lib.hid (V1.out.below hV)
              have VB2 := Lib.hid (VB1.out.trans (hV.mono VB1.out.size))
              clear hV hm' V1 VB1
              go_wp2_with fail
              refine (made_of a k (all.take k) (k) v2 V2.out.len V2.out.sl (fun u hu => (V2.out.wf.1 u hu).1) (by rw [V2.out.len]; omega)).mono ?_
              rintro e v3 ⟨⟨ma, mc, rfl, hms⟩, hV⟩
              have N3 := Lib.hid hms
              have M3 := Lib.hid (M2.out.below hV)
              have V3 := Lib.hid (V2.out.below hV)
              have VB3 := Lib.hid (VB2.out.trans (hV.mono VB2.out.size))
              have hfit := (onAll_fit (all.take k)).2.2
              rw [V3.out.len] at hfit
              clear hV hms V2 VB2 M2
              go_wp2_with fail
              refine (entries_any ma mc _ v3 N3.out (by omega)).mono ?_
              rintro e v4 ⟨⟨v, rfl, hrow⟩, hV⟩
              obtain ⟨hn', hse⟩ := SlE.of_own hrow
              obtain ⟨ea, ec, rfl, hes, -⟩ := hse
              have N4 := Lib.hid hes
              have M4 := Lib.hid (M3.out.below hV)
              have V4 := Lib.hid (V3.out.below hV)
              have VB4 := Lib.hid (VB3.out.trans (hV.mono VB3.out.size))
              clear hV V3 VB3 M3 N3 hrow hes hn'
              go_wp2_with fail
              refine (modEq_any p' b' _ ea ec _ v4 M4.out N4.out (by omega) (by omega)).mono ?_
              rintro e v5 ⟨rfl, hV⟩
              rw [show decide (onAll [] (all.take k) = onAll [] (all.take k)) = true by simp]
              have V5 := Lib.hid (V4.out.below hV)
              have VB5 := Lib.hid (VB4.out.trans (hV.mono VB4.out.size))
              clear hV V4 VB4 M4 N4
              go_wp2_with fail
              exact ⟨⟨j + 1, all.take k, k, a, k, k, by go_num, by omega, rfl, rfl, by omega, V5.out, HS3, VB5.out⟩, by simp [intOf]; omega⟩
            · have hno : ¬ ((last : Int) ≤ nn ∧ nn ≤ (all.length : Int)) := by rw [HDz.out.len]; exact hmay
              by_cases hlt : nn < (last : Int)
              · go_wp2_with fail
                refine (duo_cut_no w.heap.size h all last nn a n c' wz HDz.out hno).mono ?_
                rintro e w3 ⟨rfl, hB3⟩
                have G3 := Lib.hid (HDz.out.below hB3)
                have HB3 := Lib.hid (HBz.out.trans (hB3.mono HBz.out.size))
                clear hB3 HDz HBz hno hmay
                go_wp2_with fail
                refine (duo_len w.heap.size h (all) (last) a (n) c' w3 G3.out).mono ?_
                rintro e v1 ⟨rfl, hV⟩
                have V1 := Lib.hid (G3.out.below hV)
                have VB1 := Lib.hid (HB3.out.trans (hV.mono HB3.out.size))
                clear hV
                go_wp2_with fail
                refine (duo_now w.heap.size h (all) (last) a (n) c' v1 V1.out).mono ?_
                rintro e v2 ⟨⟨p', b', rfl, -, -, hm'⟩, hV⟩
                have M2 := Lib.hid hm'
                have V2 := Lib.hid (V1.out.below hV)
                have VB2 := Lib.hid (VB1.out.trans (hV.mono VB1.out.size))
                clear hV hm' V1 VB1
                go_wp2_with fail
                refine (made_of a c' (all) (n) v2 V2.out.len V2.out.sl (fun u hu => (V2.out.wf.1 u hu).1) (by rw [V2.out.len]; omega)).mono ?_
                rintro e v3 ⟨⟨ma, mc, rfl, hms⟩, hV⟩
                have N3 := Lib.hid hms
                have M3 := Lib.hid (M2.out.below hV)
                have V3 := Lib.hid (V2.out.below hV)
                have VB3 := Lib.hid (VB2.out.trans (hV.mono VB2.out.size))
                have hfit := (onAll_fit (all)).2.2
                rw [V3.out.len] at hfit
                clear hV hms V2 VB2 M2
                go_wp2_with fail
                refine (entries_any ma mc _ v3 N3.out (by omega)).mono ?_
                rintro e v4 ⟨⟨v, rfl, hrow⟩, hV⟩
                obtain ⟨hn', hse⟩ := SlE.of_own hrow
                obtain ⟨ea, ec, rfl, hes, -⟩ := hse
                have N4 := Lib.hid hes
                have M4 := Lib.hid (M3.out.below hV)
                have V4 := Lib.hid (V3.out.below hV)
                have VB4 := Lib.hid (VB3.out.trans (hV.mono VB3.out.size))
                clear hV V3 VB3 M3 N3 hrow hes hn'
                go_wp2_with fail
                refine (modEq_any p' b' _ ea ec _ v4 M4.out N4.out (by omega) (by omega)).mono ?_
                rintro e v5 ⟨rfl, hV⟩
                rw [show decide (onAll [] (all) = onAll [] (all)) = true by simp]
                have V5 := Lib.hid (V4.out.below hV)
                have VB5 := Lib.hid (VB4.out.trans (hV.mono VB4.out.size))
                clear hV V4 VB4 M4 N4
                go_wp2_with fail
                exact ⟨⟨j + 1, all, last, a, n, c', by go_num, by omega, rfl, rfl, by omega, V5.out, HS, VB5.out⟩, by simp [intOf]; omega⟩
              · exfalso; omega
        · go_upto_region 10 with (fail)
          go_wp2_with fail
          refine (of_upd x.u _ hwf hsz.1 hsz.2).mono ?_
          rintro e w3 ⟨⟨T, hT, rfl⟩, hB3⟩
          have D3 := Lib.hid (HDz.out.below hB3)
          have B3 := Lib.hid (HBz.out.trans (hB3.mono HBz.out.size))
          have hfT := ofH_fits x.u hwf
          have hsT := ofH_short x.u
          rw [hT] at hfT hsT
          have HFT := Lib.hid hfT
          have HST := Lib.hid hsT
          clear hT hfT hsT HDz HBz hB3 z0 z1 z2 z3 z4 z5 HD hB
          go_upto_region 11 with (fail)
          obtain ⟨W, hW⟩ : ∃ W, W = (w3.alloc (.cells #[.int .u8 T.kind, .string (S T.key), .string (S T.val), .int .u64 T.delta] 36)).alloc (.cells #[.int .u8 T.kind, .string (S T.key), .string (S T.val), .int .u64 T.delta] 37) := ⟨_, rfl⟩
          have hY : Below w3.heap.size w3 W := by rw [hW]; go_grown
          have x0 : W.cell? ⟨w3.heap.size, 0, none⟩ = some (.int .u8 T.kind) := by rw [hW, World.cell?_alloc_past _ _ _ (by simp), World.cell?_alloc_at _ _ _ _ rfl]; rfl
          have x1 : W.cell? ⟨w3.heap.size, 1, none⟩ = some (.string (S T.key)) := by rw [hW, World.cell?_alloc_past _ _ _ (by simp), World.cell?_alloc_at _ _ _ _ rfl]; rfl
          have x2 : W.cell? ⟨w3.heap.size, 2, none⟩ = some (.string (S T.val)) := by rw [hW, World.cell?_alloc_past _ _ _ (by simp), World.cell?_alloc_at _ _ _ _ rfl]; rfl
          have x3 : W.cell? ⟨w3.heap.size, 3, none⟩ = some (.int .u64 T.delta) := by rw [hW, World.cell?_alloc_past _ _ _ (by simp), World.cell?_alloc_at _ _ _ _ rfl]; rfl
          have y0 : W.cell? ⟨w3.heap.size + 1, 0, none⟩ = some (.int .u8 T.kind) := by rw [hW, World.cell?_alloc_at _ _ _ _ (by simp)]; rfl
          have y1 : W.cell? ⟨w3.heap.size + 1, 1, none⟩ = some (.string (S T.key)) := by rw [hW, World.cell?_alloc_at _ _ _ _ (by simp)]; rfl
          have y2 : W.cell? ⟨w3.heap.size + 1, 2, none⟩ = some (.string (S T.val)) := by rw [hW, World.cell?_alloc_at _ _ _ _ (by simp)]; rfl
          have y3 : W.cell? ⟨w3.heap.size + 1, 3, none⟩ = some (.int .u64 T.delta) := by rw [hW, World.cell?_alloc_at _ _ _ _ (by simp)]; rfl
          rw [← hW]
          have D4 := Lib.hid (D3.out.below hY)
          have B4 := Lib.hid (B3.out.trans (hY.mono B3.out.size))
          have K3 := Lib.hid hY
          clear hW hY B3
          go_region_held3 (fun w' => w'.cell? ⟨w3.heap.size + 1, 0, none⟩ = some (.int .u8 T.kind) ∧ w'.cell? ⟨w3.heap.size + 1, 1, none⟩ = some (.string (S T.key)) ∧ w'.cell? ⟨w3.heap.size + 1, 2, none⟩ = some (.string (S T.val)) ∧ w'.cell? ⟨w3.heap.size + 1, 3, none⟩ = some (.int .u64 T.delta) ∧ Below W.heap.size W w')
            (first | assumption | exact ⟨cell_drew y0, cell_drew y1, cell_drew y2, cell_drew y3, below_drew' (Below.refl _ _)⟩ | exact HC7.out | exact HC6.out)
            (first
              | (go_at_call 16; go_must (obtain ⟨k0, k1, k2, k3, k4⟩ := ‹_ ∧ _ ∧ _ ∧ _ ∧ Below _ _ _›; have hd := D4.out.below k4; refine (made_of a c' all n _ hd.len hd.sl (fun u hu => (hd.wf.1 u hu).1) (by rw [hd.len]; omega)).mono ?_; rintro e w6 ⟨⟨ma, mc, rfl, hms⟩, hV⟩; have HC6 := Lib.hid (And.intro (kept_cell hV k0) (And.intro (kept_cell hV k1) (And.intro (kept_cell hV k2) (And.intro (kept_cell hV k3) (k4.trans (hV.mono k4.size)))))); have N6 := Lib.hid hms; clear hV hms hd k0 k1 k2 k3 k4))
              | (go_at_call 15; go_must (have hfit := onAll_fit all; rw [D4.out.len] at hfit; refine (may_any ma mc _ T _ N6.out hfit.1 (by omega) HFT.out.2).mono ?_; rintro e w7 ⟨rfl, hV⟩; have HC7 := Lib.hid (show _ ∧ _ ∧ _ ∧ _ ∧ _ from ⟨kept_cell hV HC6.out.1, kept_cell hV HC6.out.2.1, kept_cell hV HC6.out.2.2.1, kept_cell hV HC6.out.2.2.2.1, HC6.out.2.2.2.2.trans (hV.mono HC6.out.2.2.2.2.size)⟩); clear hV hfit)))
          obtain ⟨k0, k1, k2, k3, k4⟩ := HC7.out
          have D7 := Lib.hid (D4.out.below k4)
          have B7 := Lib.hid (B4.out.trans (k4.mono B4.out.size))
          replace y0 := kept_cell k4 y0
          replace y1 := kept_cell k4 y1
          replace y2 := kept_cell k4 y2
          replace y3 := kept_cell k4 y3
          replace K3 := Lib.hid (K3.out.trans (k4.mono K3.out.size))
          replace x0 := kept_cell k4 x0
          replace x1 := kept_cell k4 x1
          replace x2 := kept_cell k4 x2
          replace x3 := kept_cell k4 x3
          clear k4 HC7 HC6 N6 D4 B4
          have hlen := D7.out.len
          go_wp2_with fail
          refine (duo_add w.heap.size h all last a n c' T w w3 w7 B7.out B7.out.size D3.out K3.out HFT.out.1 (by omega)).mono ?_
          rintro e w8 ⟨rfl, g8, hB8, hk8⟩
          replace y0 := hk8 _ _ _ (by omega) y0
          replace y1 := hk8 _ _ _ (by omega) y1
          replace y2 := hk8 _ _ _ (by omega) y2
          replace y3 := hk8 _ _ _ (by omega) y3
          clear hk8 x0 x1 x2 x3 D3 K3
          by_cases hE : errU (onAll [] all) T = 0
          · have g9 : Duo w8 w.heap.size h (all ++ [T]) last a n c' all := by rw [if_pos hE] at g8; exact g8
            have D8 := Lib.hid g9
            have B8 := Lib.hid hB8
            rw [hE]
            rw [show decide ((0 : Nat) = 0) = true from rfl]
            clear g8 g9 hB8 hE D7 B7
            have hX : Below w8.heap.size w8 (w8.alloc (.cells #[.int .u8 T.kind, .string (S T.key), .string (S T.val), .int .u64 T.delta] 37)) := by go_grown
            have D9 := Lib.hid (D8.out.below hX)
            have B9 := Lib.hid (B8.out.trans (hX.mono B8.out.size))
            have hnx : n ≤ 1000 := by omega
            clear hX
            go_wp2_with (at_builtin; go_must (refine wpList_append_ref rfl (.tmp 72) (.tmp 74) rfl _ n _ rfl D9.out.row ⟨w8.heap.size, 0, none⟩ [.int .u8 T.kind, .string (S T.key), .string (S T.val), .int .u64 T.delta] rfl rfl (cell_fourM _ _ rfl _ _ _ _ _) (four_oneM _ _ _ _) hnx ?_; intro vz wz hownwz hgrowwz hkz; obtain ⟨gz, cz, ez⟩ := own_form hownwz; subst ez))
            rw [← cellsU_snocM] at hownwz
            have G9 := Lib.hid (D9.out.put T (by have := B9.out.size; exact this) hownwz hgrowwz hkz)
            have C9 := Lib.hid (D9.out.low B9.out B9.out.size hgrowwz)
            have HS9 := Lib.hid (show ∀ u ∈ all ++ [T], u.key.length ≤ 2 from fun u hu => by
              rcases List.mem_append.1 hu with h1 | h1
              · exact HS.out u h1
              · rw [List.mem_singleton.1 h1]; exact HST.out)
            clear hownwz hgrowwz hkz D9 B9 D8 B8
            go_wp2_with fail
            refine (duo_len w.heap.size h (all ++ [T]) (last) gz (n + 1) cz wz G9.out).mono ?_
            rintro e v1 ⟨rfl, hV⟩
            have V1 := Lib.hid (G9.out.below hV)
            have VB1 := Lib.hid (C9.out.trans (hV.mono C9.out.size))
            clear hV
            go_wp2_with fail
            refine (duo_now w.heap.size h (all ++ [T]) (last) gz (n + 1) cz v1 V1.out).mono ?_
            rintro e v2 ⟨⟨p', b', rfl, -, -, hm'⟩, hV⟩
            have M2 := Lib.hid hm'
            have V2 := Lib.hid (V1.out.below hV)
            have VB2 := Lib.hid (VB1.out.trans (hV.mono VB1.out.size))
            clear hV hm' V1 VB1
            go_wp2_with fail
            refine (made_of gz cz (all ++ [T]) (n + 1) v2 V2.out.len V2.out.sl (fun u hu => (V2.out.wf.1 u hu).1) (by rw [V2.out.len]; omega)).mono ?_
            rintro e v3 ⟨⟨ma, mc, rfl, hms⟩, hV⟩
            have N3 := Lib.hid hms
            have M3 := Lib.hid (M2.out.below hV)
            have V3 := Lib.hid (V2.out.below hV)
            have VB3 := Lib.hid (VB2.out.trans (hV.mono VB2.out.size))
            have hfit := (onAll_fit (all ++ [T])).2.2
            rw [V3.out.len] at hfit
            clear hV hms V2 VB2 M2
            go_wp2_with fail
            refine (entries_any ma mc _ v3 N3.out (by omega)).mono ?_
            rintro e v4 ⟨⟨v, rfl, hrow⟩, hV⟩
            obtain ⟨hn', hse⟩ := SlE.of_own hrow
            obtain ⟨ea, ec, rfl, hes, -⟩ := hse
            have N4 := Lib.hid hes
            have M4 := Lib.hid (M3.out.below hV)
            have V4 := Lib.hid (V3.out.below hV)
            have VB4 := Lib.hid (VB3.out.trans (hV.mono VB3.out.size))
            clear hV V3 VB3 M3 N3 hrow hes hn'
            go_wp2_with fail
            refine (modEq_any p' b' _ ea ec _ v4 M4.out N4.out (by omega) (by omega)).mono ?_
            rintro e v5 ⟨rfl, hV⟩
            rw [show decide (onAll [] (all ++ [T]) = onAll [] (all ++ [T])) = true by simp]
            have V5 := Lib.hid (V4.out.below hV)
            have VB5 := Lib.hid (VB4.out.trans (hV.mono VB4.out.size))
            clear hV V4 VB4 M4 N4
            go_wp2_with fail
            exact ⟨⟨j + 1, all ++ [T], last, gz, n + 1, cz, by go_num, by omega, rfl, rfl, by omega, V5.out, HS9, VB5.out⟩, by simp [intOf]; omega⟩
          · have g9 : Duo w8 w.heap.size h all last a n c' all := by rw [if_neg hE] at g8; exact g8
            have D8 := Lib.hid g9
            have B8 := Lib.hid hB8
            rw [errU_14 HFT.out.2 hE]
            rw [show decide ((14 : Nat) = 0) = false from rfl]
            clear g8 g9 hB8 hE D7 B7
            go_wp2_with fail
            refine (duo_len w.heap.size h (all) (last) a (n) c' w8 D8.out).mono ?_
            rintro e v1 ⟨rfl, hV⟩
            have V1 := Lib.hid (D8.out.below hV)
            have VB1 := Lib.hid (B8.out.trans (hV.mono B8.out.size))
            clear hV
            go_wp2_with fail
            refine (duo_now w.heap.size h (all) (last) a (n) c' v1 V1.out).mono ?_
            rintro e v2 ⟨⟨p', b', rfl, -, -, hm'⟩, hV⟩
            have M2 := Lib.hid hm'
            have V2 := Lib.hid (V1.out.below hV)
            have VB2 := Lib.hid (VB1.out.trans (hV.mono VB1.out.size))
            clear hV hm' V1 VB1
            go_wp2_with fail
            refine (made_of a c' (all) (n) v2 V2.out.len V2.out.sl (fun u hu => (V2.out.wf.1 u hu).1) (by rw [V2.out.len]; omega)).mono ?_
            rintro e v3 ⟨⟨ma, mc, rfl, hms⟩, hV⟩
            have N3 := Lib.hid hms
            have M3 := Lib.hid (M2.out.below hV)
            have V3 := Lib.hid (V2.out.below hV)
            have VB3 := Lib.hid (VB2.out.trans (hV.mono VB2.out.size))
            have hfit := (onAll_fit (all)).2.2
            rw [V3.out.len] at hfit
            clear hV hms V2 VB2 M2
            go_wp2_with fail
            refine (entries_any ma mc _ v3 N3.out (by omega)).mono ?_
            rintro e v4 ⟨⟨v, rfl, hrow⟩, hV⟩
            obtain ⟨hn', hse⟩ := SlE.of_own hrow
            obtain ⟨ea, ec, rfl, hes, -⟩ := hse
            have N4 := Lib.hid hes
            have M4 := Lib.hid (M3.out.below hV)
            have V4 := Lib.hid (V3.out.below hV)
            have VB4 := Lib.hid (VB3.out.trans (hV.mono VB3.out.size))
            clear hV V3 VB3 M3 N3 hrow hes hn'
            go_wp2_with fail
            refine (modEq_any p' b' _ ea ec _ v4 M4.out N4.out (by omega) (by omega)).mono ?_
            rintro e v5 ⟨rfl, hV⟩
            rw [show decide (onAll [] (all) = onAll [] (all)) = true by simp]
            have V5 := Lib.hid (V4.out.below hV)
            have VB5 := Lib.hid (VB4.out.trans (hV.mono VB4.out.size))
            clear hV V4 VB4 M4 N4
            go_wp2_with fail
            exact ⟨⟨j + 1, all, last, a, n, c', by go_num, by omega, rfl, rfl, by omega, V5.out, HS, VB5.out⟩, by simp [intOf]; omega⟩
    · obtain rfl : j = m := by omega
      obtain ⟨wq, hwq⟩ : ∃ wq, wq = wr := ⟨_, rfl⟩
      subst hwq
      have hln := HD.out.len
      have HWF := Lib.hid HD.out.wf
      have hlast : last ≤ n := by have := HWF.out.2.1; omega
      have hcp := HD.out.row.cap
      go_wp2_with fail
      go_loopw [147] (fun i wr => ∃ q : Nat, i = .int .i64 q ∧ q ≤ n + 1 ∧ Below wq.heap.size wq wr) (fun i _ => n + 1 - (intOf i).toNat)
      case atStart => exact ⟨0, rfl, Nat.zero_le _, Below.refl _ _⟩
      case round =>
        obtain ⟨q, rfl, hq, hB2⟩ := hrel
        have hq0 : (0 : Int) ≤ (q : Int) := Int.natCast_nonneg _
        by_cases hqn : q ≤ n
        · have hq1 : (q : Int) < (n : Int) + 1 := by omega
          go_wp2_with fail
          go_loopw [20, 18, 19] (fun v20 v18 v19 wr => ∃ (k wn : Nat) (bb : Bool), v20 = .int .i64 k ∧ v18 = .int .i64 wn ∧ v19 = .bool bb ∧ last ≤ k ∧ k ≤ n + 1 ∧ Hid ((bb = true ∧ preL all last (onAll [] (all.take q)) = (wn, true)) ∨ (bb = false ∧ wn = 0 ∧ (k ≤ n → preF all (onAll [] (all.take q)) (n - k) k = preL all last (onAll [] (all.take q))) ∧ (k = n + 1 → preL all last (onAll [] (all.take q)) = (0, false)))) ∧ Below wq.heap.size wq wr) (fun v20 _ _ _ => n + 2 - (intOf v20).toNat)
          case atStart => exact ⟨last, 0, false, rfl, rfl, rfl, Nat.le_refl _, by omega, Lib.hid (Or.inr ⟨rfl, rfl, fun _ => by unfold preL; rw [hln], fun e => by omega⟩), hB2⟩
          case round =>
            obtain ⟨k, wn, bb, rfl, rfl, rfl, hk1, hk2, HP, hB3⟩ := hrel
            have hk0 : (0 : Int) ≤ (k : Int) := Int.natCast_nonneg _
            cases bb with
            | true =>
              have hP := Lib.hid (show preL all last (onAll [] (all.take q)) = (wn, true) by
                rcases HP.out with h1 | h1
                · exact h1.2
                · exact absurd h1.1 (by simp))
              clear HP
              by_cases hkn : k ≤ n
              · have hkn' : (k : Int) ≤ (n : Int) := by omega
                have hc3 := fun w => cut_V a n c' q hqn hcp.1 w
                go_wp2_with fail
                refine (made_of a c' (all.take q) q _ (by rw [List.length_take, hln]; omega) ((take_at HD.out.sl q).kept hB3 (Nat.le_refl _)) (fun u hu => ((HWF.out).1 u (List.mem_of_mem_take hu)).1) (by rw [List.length_take, hln]; omega)).mono ?_
                rintro e v3 ⟨⟨ma, mc, rfl, hms⟩, hV⟩
                have N3 := Lib.hid hms
                have VB3 := Lib.hid (hB3.trans (hV.mono hB3.size))
                have hfit := (onAll_fit (all.take q)).2.2
                rw [List.length_take, hln] at hfit
                clear hV hms
                go_wp2_with fail
                refine (entries_any ma mc _ v3 N3.out (by omega)).mono ?_
                rintro e v4 ⟨⟨v, rfl, hrow⟩, hV⟩
                obtain ⟨hn', hse⟩ := SlE.of_own hrow
                obtain ⟨ea, ec, rfl, hes, -⟩ := hse
                have N4 := Lib.hid hes
                have VB4 := Lib.hid (VB3.out.trans (hV.mono VB3.out.size))
                clear hV VB3 N3 hrow hes hn'
                go_wp2_with fail
                refine (duo_pre w.heap.size h all last a n c' ea ec _ _ v4 (HD.out.below VB4.out) rfl N4.out (by omega)).mono ?_
                rintro e v5 ⟨rfl, hV⟩
                rw [hP.out]
                have VB5 := Lib.hid (VB4.out.trans (hV.mono VB4.out.size))
                clear hV VB4 N4
                go_wp2_with fail
                exact ⟨⟨q + 1, by go_num, by omega, VB5.out⟩, by simp [intOf]; omega⟩
              · have hkn' : ¬ (k : Int) ≤ (n : Int) := by omega
                have hc3 := fun w => cut_V a n c' q hqn hcp.1 w
                go_wp2_with fail
                refine (made_of a c' (all.take q) q _ (by rw [List.length_take, hln]; omega) ((take_at HD.out.sl q).kept hB3 (Nat.le_refl _)) (fun u hu => ((HWF.out).1 u (List.mem_of_mem_take hu)).1) (by rw [List.length_take, hln]; omega)).mono ?_
                rintro e v3 ⟨⟨ma, mc, rfl, hms⟩, hV⟩
                have N3 := Lib.hid hms
                have VB3 := Lib.hid (hB3.trans (hV.mono hB3.size))
                have hfit := (onAll_fit (all.take q)).2.2
                rw [List.length_take, hln] at hfit
                clear hV hms
                go_wp2_with fail
                refine (entries_any ma mc _ v3 N3.out (by omega)).mono ?_
                rintro e v4 ⟨⟨v, rfl, hrow⟩, hV⟩
                obtain ⟨hn', hse⟩ := SlE.of_own hrow
                obtain ⟨ea, ec, rfl, hes, -⟩ := hse
                have N4 := Lib.hid hes
                have VB4 := Lib.hid (VB3.out.trans (hV.mono VB3.out.size))
                clear hV VB3 N3 hrow hes hn'
                go_wp2_with fail
                refine (duo_pre w.heap.size h all last a n c' ea ec _ _ v4 (HD.out.below VB4.out) rfl N4.out (by omega)).mono ?_
                rintro e v5 ⟨rfl, hV⟩
                rw [hP.out]
                have VB5 := Lib.hid (VB4.out.trans (hV.mono VB4.out.size))
                clear hV VB4 N4
                go_wp2_with fail
                exact ⟨⟨q + 1, by go_num, by omega, VB5.out⟩, by simp [intOf]; omega⟩
            | false =>
              have HP2 := Lib.hid (show wn = 0 ∧ (k ≤ n → preF all (onAll [] (all.take q)) (n - k) k = preL all last (onAll [] (all.take q))) ∧ (k = n + 1 → preL all last (onAll [] (all.take q)) = (0, false)) by
                rcases HP.out with h1 | h1
                · exact absurd h1.1 (by simp)
                · exact h1.2)
              clear HP
              have hwn := HP2.out.1
              subst hwn
              by_cases hkn : k ≤ n
              · have hkn' : (k : Int) ≤ (n : Int) := by omega
                have hc1 := fun w => cut_V a n c' k hkn hcp.1 w
                have hc2 := fun w => cut_V a n c' q hqn hcp.1 w
                have HF := Lib.hid (HP2.out.2.1 hkn)
                have f1 := (onAll_fit (all.take k)).2.2
                have f2 := (onAll_fit (all.take q)).2.2
                rw [List.length_take, hln] at f1 f2
                have HMK := Lib.hid (fun (W : World) (hW : Below wq.heap.size wq W) => made_of a c' (all.take k) k W (by rw [List.length_take, hln]; omega) ((take_at HD.out.sl k).kept hW (Nat.le_refl _)) (fun u hu => ((HWF.out).1 u (List.mem_of_mem_take hu)).1) (by rw [List.length_take, hln]; omega))
                have HMQ := Lib.hid (fun (W : World) (hW : Below wq.heap.size wq W) => made_of a c' (all.take q) q W (by rw [List.length_take, hln]; omega) ((take_at HD.out.sl q).kept hW (Nat.le_refl _)) (fun u hu => ((HWF.out).1 u (List.mem_of_mem_take hu)).1) (by rw [List.length_take, hln]; omega))
                have HNX := Lib.hid (fun (heq : onAll [] (all.take k) ≠ onAll [] (all.take q)) => show (k + 1 ≤ n → preF all (onAll [] (all.take q)) (n - (k + 1)) (k + 1) = preL all last (onAll [] (all.take q))) ∧ (k + 1 = n + 1 → preL all last (onAll [] (all.take q)) = (0, false)) from ⟨fun h1 => by rw [← HF.out, show n - k = (n - (k + 1)) + 1 by omega, preF_next heq], fun h1 => by rw [← HF.out, show n - k = 0 by omega, preF_end heq]⟩)
                have HYX := Lib.hid (fun (heq : onAll [] (all.take k) = onAll [] (all.take q)) => show preL all last (onAll [] (all.take q)) = (k, true) by rw [← HF.out]; exact preF_hit heq)
                clear HF HP2
                go_upto_region 41 with (fail)
                generalize onAll [] (all.take k) = E1 at *
                generalize hE2 : onAll [] (all.take q) = E2 at *
                have HE2 := Lib.hid hE2
                clear hE2
                have hs29 := Lib.hid (fun (W : World) (a1 a2 : Option Addr) (c1 c2 : Nat) (h1 : SlAt Ent.cells 2 W a1 E1) (h2 : SlAt Ent.cells 2 W a2 E2) => same29_any a1 c1 a2 c2 E1 E2 W h1 h2 (by omega) (by omega))
                go_region_held3 (fun w' => True ∧ Below wq.heap.size wq w')
                  (first | assumption | exact ⟨trivial, below_drew' hB3⟩ | exact ⟨trivial, HC7.out⟩ | exact ⟨trivial, HC6.out⟩)
                  (first
                    | (go_at_call_of 16 (Value.slice a k c'); go_must (obtain ⟨-, k4⟩ := ‹True ∧ Below _ _ _›; refine (HMK.out _ k4).mono ?_; rintro e w6 ⟨⟨ka, kc, rfl, hms⟩, hV⟩; have HC6 := Lib.hid (k4.trans (hV.mono k4.size)); have NK := Lib.hid hms; (try (replace NQ := Lib.hid (NQ.out.kept hV (Nat.le_refl _)))); clear hV hms k4))
                    | (go_at_call_of 16 (Value.slice a q c'); go_must (obtain ⟨-, k4⟩ := ‹True ∧ Below _ _ _›; refine (HMQ.out _ k4).mono ?_; rintro e w6 ⟨⟨qa, qc, rfl, hms⟩, hV⟩; have HC6 := Lib.hid (k4.trans (hV.mono k4.size)); have NQ := Lib.hid hms; (try (replace NK := Lib.hid (NK.out.kept hV (Nat.le_refl _)))); clear hV hms k4))
                    | (go_at_call 22; go_must (refine (hs29.out _ ka qa kc qc NK.out NQ.out).mono ?_; rintro e w7 ⟨rfl, hV⟩; have HC7 := Lib.hid (HC6.out.trans (hV.mono HC6.out.size)); clear hV)))
                all_goals
                  have hBB := HC7.out
                  clear NK NQ HC6 HC7
                  by_cases heq : E1 = E2
                  · have hd : decide (E1 = E2) = true := by simp [heq]
                    have hP2 := Lib.hid (HYX.out heq)
                    rw [hd]
                    clear hd heq HYX HNX HMK HMQ hs29
                    go_wp2_with fail
                    exact ⟨⟨k + 1, k, true, by go_num, rfl, rfl, by omega, by omega, Lib.hid (Or.inl ⟨rfl, by rw [HE2.out]; exact hP2.out⟩), hBB⟩, by simp [intOf]; omega⟩
                  · have hd : decide (E1 = E2) = false := by simp [heq]
                    have hP2 := Lib.hid (HNX.out heq)
                    rw [hd]
                    clear hd heq HYX HNX HMK HMQ hs29
                    go_wp2_with fail
                    exact ⟨⟨k + 1, 0, false, by go_num, rfl, rfl, by omega, by omega, Lib.hid (Or.inr ⟨rfl, rfl, by rw [HE2.out]; exact hP2.out⟩), hBB⟩, by simp [intOf]; omega⟩
              · have hkn' : ¬ (k : Int) ≤ (n : Int) := by omega
                have hP := Lib.hid (HP2.out.2.2 (by omega))
                clear HP2
                have hc3 := fun w => cut_V a n c' q hqn hcp.1 w
                go_wp2_with fail
                refine (made_of a c' (all.take q) q _ (by rw [List.length_take, hln]; omega) ((take_at HD.out.sl q).kept hB3 (Nat.le_refl _)) (fun u hu => ((HWF.out).1 u (List.mem_of_mem_take hu)).1) (by rw [List.length_take, hln]; omega)).mono ?_
                rintro e v3 ⟨⟨ma, mc, rfl, hms⟩, hV⟩
                have N3 := Lib.hid hms
                have VB3 := Lib.hid (hB3.trans (hV.mono hB3.size))
                have hfit := (onAll_fit (all.take q)).2.2
                rw [List.length_take, hln] at hfit
                clear hV hms
                go_wp2_with fail
                refine (entries_any ma mc _ v3 N3.out (by omega)).mono ?_
                rintro e v4 ⟨⟨v, rfl, hrow⟩, hV⟩
                obtain ⟨hn', hse⟩ := SlE.of_own hrow
                obtain ⟨ea, ec, rfl, hes, -⟩ := hse
                have N4 := Lib.hid hes
                have VB4 := Lib.hid (VB3.out.trans (hV.mono VB3.out.size))
                clear hV VB3 N3 hrow hes hn'
                go_wp2_with fail
                refine (duo_pre w.heap.size h all last a n c' ea ec _ _ v4 (HD.out.below VB4.out) rfl N4.out (by omega)).mono ?_
                rintro e v5 ⟨rfl, hV⟩
                rw [hP.out]
                have VB5 := Lib.hid (VB4.out.trans (hV.mono VB4.out.size))
                clear hV VB4 N4
                go_wp2_with fail
                exact ⟨⟨q + 1, by go_num, by omega, VB5.out⟩, by simp [intOf]; omega⟩
        · obtain rfl : q = n + 1 := by omega
          have hq1 : ¬ ((n : Int) + 1 < (n : Int) + 1) := by omega
          go_upto_region 47 with (fail)
          have hX : Below wr.heap.size wr (wr.alloc (.cells #[.string (S [110, 111, 98, 111, 100, 121, 32, 104, 97, 115, 32, 105, 116]), .string (S [115, 111])] 55)) := by go_grown
          have HE := Lib.hid (slE_one wr wr.heap.size ⟨[110, 111, 98, 111, 100, 121, 32, 104, 97, 115, 32, 105, 116], [115, 111]⟩ 55 rfl)
          have VB3 := Lib.hid (hB2.trans (hX.mono hB2.size))
          have HN := Lib.hid (show preL all last [⟨[110, 111, 98, 111, 100, 121, 32, 104, 97, 115, 32, 105, 116], [115, 111]⟩] = (0, false) from preF_none (fun k e => by
            have := onAll_short (all.take k) (fun u hu => HS.out u (List.mem_of_mem_take hu)) ⟨[110, 111, 98, 111, 100, 121, 32, 104, 97, 115, 32, 105, 116], [115, 111]⟩ (by rw [e]; simp)
            exact absurd this (by decide)) _ _)
          clear hX
          go_wp2_with fail
          refine (duo_pre w.heap.size h all last a n c' (some ⟨wr.heap.size, 0, none⟩) 1 1 [⟨[110, 111, 98, 111, 100, 121, 32, 104, 97, 115, 32, 105, 116], [115, 111]⟩] _ (HD.out.below VB3.out) rfl HE.out (by decide)).mono ?_
          rintro e w7 ⟨rfl, hB7⟩
          rw [HN.out]
          have HB7 := Lib.hid (hB.trans ((VB3.out.trans (hB7.mono VB3.out.size)).mono hB.size))
          clear hB7 VB3 HE
          go_wp2_with fail
          go_ret
          exact ⟨rfl, HB7.out⟩

end Go.Proofs.Ythcjcmalfnfjkaa
