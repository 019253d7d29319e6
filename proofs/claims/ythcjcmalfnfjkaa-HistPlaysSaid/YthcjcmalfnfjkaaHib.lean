/-
  The walk of a history's Prefix.
-/
import Derived.Test.YthcjcmalfnfjkaaHis
import Derived.Test.YthcjcmalfnfjkaaMes
import Derived.Deep.RegionHeld3
import Derived.Deep.DrawnRows
namespace Go.Proofs.Ythcjcmalfnfjkaa
open Go.RowKit Go.Maps Go.WideShapes Go.Shelf
set_option linter.unusedVariables false
attribute [local go_sem ↓] Go.wp_at_zero Go.wp_at_succ

/-- How many of them make just these entries, from n on. -/
def preF (all : List Upd) (y : List Ent) : Nat → Nat → Nat × Bool
  | 0, n => if onAll [] (all.take n) = y then (n, true) else (0, false)
  | f + 1, n => if onAll [] (all.take n) = y then (n, true) else preF all y f (n + 1)
def preL (all : List Upd) (last : Nat) (y : List Ent) : Nat × Bool := preF all y (all.length - last) last
theorem preF_hit {all : List Upd} {y : List Ent} {f n : Nat} (h : onAll [] (all.take n) = y) : preF all y f n = (n, true) := by cases f <;> simp [preF, h]
theorem preF_end {all : List Upd} {y : List Ent} {n : Nat} (h : onAll [] (all.take n) ≠ y) : preF all y 0 n = (0, false) := by simp [preF, h]
theorem preF_next {all : List Upd} {y : List Ent} {f n : Nat} (h : onAll [] (all.take n) ≠ y) : preF all y (f + 1) n = preF all y f (n + 1) := by simp [preF, h]
theorem underU : Try.prog.underlying 83 = some (.slice (Try.prog.elem 83)) := by rw [show Try.prog.elem 83 = 36 by kernel_rfl]; exact Try.underlying83
theorem sizeElemU (w : World) : (sizeOf (Try.prog.elem 83)).run Try.prog w = .ok 4 w := by kernel_rfl
theorem cut_U (ao : Option Addr) (n c i : Nat) (hin : i ≤ n) (hnc : n ≤ c) (w : World) : (Instr.slice 83 (.slice ao n c) none (some (.int .i64 (i : Int))) none).run Try.prog w = .ok (.slice ao i c) w := by
  rw [run_slice_h w 83 ao n c underU .i64 i (by omega) (by omega)]
  rw [sizeElemU]
  have e : ao.map (·.add 0) = ao := by cases ao <;> simp [Addr.add]
  simp [Result.andThen, sliced, e]
theorem take_at {w : World} {ao : Option Addr} {l : List Upd} (h : SlAt Upd.cells 4 w ao l) (n : Nat) : SlAt Upd.cells 4 w ao (l.take n) := by
  rcases h with rfl | ⟨b, off, e, hb, hc⟩
  · exact Or.inl (by simp)
  · refine Or.inr ⟨b, off, e, hb, fun i hi j x hx => hc i (by rw [List.length_take] at hi; omega) j x ?_⟩
    rw [List.getElem_take] at hx
    exact hx
theorem HisAt.row {w : World} {S : Nat → Prop} {h : Nat} {a : Option Addr} {c p b : Nat} {all : List Upd} {last : Nat} (H : HisAt w S h a c p b all last) : SlAt Upd.cells 4 w a all ∧ all.length ≤ c ∧ (c : Int) ≤ 9223372036854775807 ∧ (a = none → c = 0) := by
  obtain ⟨ao, c', e, h1, h2⟩ := (SlU.of_own H.own).2.form
  simp only [Value.slice.injEq] at e
  obtain ⟨rfl, -, rfl⟩ := e
  exact ⟨h1, h2⟩

set_option maxRecDepth 100000 in
set_option maxHeartbeats 8000000 in
theorem hisPre_any (S0 : Nat → Prop) (h : Nat) (a : Option Addr) (c p b : Nat) (all : List Upd) (last : Nat) (a2 : Option Addr) (c2 : Nat) (y : List Ent) (w : World) (H : HisAt w S0 h a c p b all last) (hy : SlAt Ent.cells 2 w a2 y) (hly : y.length ≤ 1000000) :
    Calls Try.prog 23 #[.pointer (some ⟨h, 0, none⟩), .slice a2 y.length c2] w fun e w' => e = .returned (.tuple #[.int .i64 ((preL all last y).1 : Nat), .bool (preL all last y).2]) ∧ Below w.heap.size w w' := by
  have HY := Lib.hid hy
  have HH := Lib.hid H
  have hle := H.le
  have hlen := H.len
  have hcap := H.row.2.1
  have hwf := H.wf
  have HWF := Lib.hid hwf
  clear H hy hwf
  have hcut := fun w => cut_U a all.length c last hle hcap w
  generalize hP : preL all last y = P at *
  obtain ⟨k, is⟩ := P
  have HP := Lib.hid hP
  clear hP
  go_enter Try.func23, Try.ntmps23
  go_upto_region 3 with (fail)
  have c0 := HH.out.c0
  have c1 := HH.out.c1
  go_region_held3 (fun w' => w'.cell? ⟨h, 0, none⟩ = some (.slice a all.length c) ∧ w'.cell? ⟨h, 1, none⟩ = some (.int .i64 (last : Nat)) ∧ Below w.heap.size w w')
    (first | assumption | exact ⟨cell_drew c0, cell_drew c1, below_drew' (Below.refl _ _)⟩ | exact ⟨HC.out.1, HC.out.2.1, HC.out.2.2⟩)
    ((go_at_call 34; go_must (obtain ⟨x0, x1, x2⟩ := ‹_ ∧ _ ∧ Below _ _ _›; have hlt := HH.out.row.1; refine (modOf_of a c (all.take last) last _ (by rw [List.length_take]; omega) ((take_at hlt last).kept x2 (Nat.le_refl _)) (fun u hu => (HWF.out u (List.mem_of_mem_take hu)).1) (by rw [List.length_take]; omega)).mono ?_; rintro e w2 ⟨⟨p2, b2, rfl, g1, g2, g3⟩, hB2⟩; have HC := Lib.hid (And.intro (kept_cell hB2 x0) (And.intro (kept_cell hB2 x1) (x2.trans (hB2.mono x2.size)))); have HG := Lib.hid (And.intro (show w.heap.size ≤ p2 from Nat.le_trans x2.size g1) (And.intro (show w.heap.size ≤ b2 from Nat.le_trans x2.size g2) g3)); clear hB2 g1 g2 g3 x0 x1 x2)))
  obtain ⟨d0, d1, hB2⟩ := HC.out
  obtain ⟨gp, gb, gm⟩ := HG.out
  have HM2 := Lib.hid gm
  have hz2 := hB2.size
  clear gm c0 c1 hcut HG HC
  go_wp2_with fail
  go_loopw [7] (fun i wr => ∃ j : Nat, i = .int .i64 j ∧ last ≤ j ∧ j ≤ all.length ∧ Hid (preF all y (all.length - j) j = (k, is)) ∧ Hid (ModAt wr p2 b2 (onAll [] (all.take j))) ∧ Below w.heap.size w wr) (fun i _ => all.length + 1 - (intOf i).toNat)
  case atStart => exact ⟨last, rfl, Nat.le_refl _, hle, HP, HM2, hB2⟩
  case round =>
    obtain ⟨j, rfl, hj1, hj2, HF, HM, hB⟩ := hrel
    have hj0 : (0 : Int) ≤ (j : Int) := Int.natCast_nonneg _
    have hzr := hB.size
    have hfit := (onAll_fit (all.take j)).2.2
    rw [List.length_take] at hfit
    have r0 := (cell_below hB (cell_lt HH.out.c0) 0).trans HH.out.c0
    go_wp2_with fail
    refine (modEq_any p2 b2 _ a2 c2 y wr HM.out (HY.out.kept hB (Nat.le_refl _)) (by omega) hly).mono ?_
    rintro e w3 ⟨rfl, hB3⟩
    have r1 := kept_cell hB3 r0
    have HM3 := Lib.hid (HM.out.below hB3)
    have hX3 := hB.trans (hB3.mono hzr)
    clear r0 HM
    by_cases heq : onAll [] (all.take j) = y
    · have hd : decide (onAll [] (all.take j) = y) = true := by simp [heq]
      rw [hd]
      have hk := HF.out
      rw [preF_hit heq] at hk
      injection hk with hk1 hk2
      subst hk1; subst hk2
      clear heq hd
      go_wp2_with fail
      exact bodyPost_ret (v := .tuple #[.int .i64 (j : Nat), .bool true]) (by simp [results, Try.results23, go_sem]) rfl ⟨rfl, hX3⟩
    · have hd : decide (onAll [] (all.take j) = y) = false := by simp [heq]
      rw [hd]
      have HNE := Lib.hid heq
      clear heq hd
      by_cases hjl : j < all.length
      · have hjl' : ¬ (j : Int) = (all.length : Int) := by omega
        have hjl1 : (j : Int) < (all.length : Int) := by omega
        have HF2 := Lib.hid (show preF all y (all.length - (j + 1)) (j + 1) = (k, is) by
          have := HF.out
          rw [show all.length - j = (all.length - (j + 1)) + 1 by omega, preF_next HNE.out] at this
          exact this)
        obtain ⟨b', off, ea, hb, t0, t1, t2, t3⟩ := SlAt.cells4 HH.out.row.1 j hjl
        subst ea
        have q0 := (cell_below hX3 hb _).trans t0
        have q1 := (cell_below hX3 hb _).trans t1
        have q2 := (cell_below hX3 hb _).trans t2
        have q3 := (cell_below hX3 hb _).trans t3
        have HT := Lib.hid (onAll_take all j hjl)
        have hwf := (HWF.out _ (List.getElem_mem hjl)).1
        clear t0 t1 t2 t3
        have HL := Lib.hid (show True from trivial)
        generalize all[j] = u at *
        go_wp2_with fail
        refine (modUp_upd p2 b2 _ u w3 HM3.out hwf (by omega)).mono ?_
        rintro e w4 ⟨rfl, hm4, hg4⟩
        have HM4 := Lib.hid hm4
        have hB4 := own_ne_below hX3 hg4 gb hX3.size
        clear hm4 hg4
        go_wp2_with fail
        exact ⟨⟨j + 1, by go_num, by omega, by omega, HF2, Lib.hid (by rw [HT.out]; exact HM4.out), hB4⟩, by simp [intOf]; omega⟩
      · obtain rfl : j = all.length := by omega
        have hk := HF.out
        rw [Nat.sub_self, preF_end HNE.out] at hk
        injection hk with hk1 hk2
        subst hk1; subst hk2
        go_wp2_with fail
        exact bodyPost_ret (v := .tuple #[.int .i64 ((0 : Nat) : Int), .bool false]) (by simp [results, Try.results23, go_sem]) rfl ⟨rfl, hX3⟩

end Go.Proofs.Ythcjcmalfnfjkaa
