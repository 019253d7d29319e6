/-
  The walk of law 29's wakes.
-/
import Derived.Test.YthcjcmalfnfjkaaHib
import Derived.Test.YthcjcmalfnfjkaaHia
namespace Go.Proofs.Ythcjcmalfnfjkaa
open Go.RowKit Go.Maps Go.WideShapes Go.Shelf
set_option linter.unusedVariables false
attribute [local go_sem ↓] Go.wp_at_zero Go.wp_at_succ

def uA : Upd := ⟨1, [97], [], 0⟩
def uB : Upd := ⟨1, [98], [], 0⟩
theorem wk_1 : errU (onAll [] []) uA = 0 := by rfl
theorem wk_2 : errU (onAll [] [uA]) uB = 0 := by rfl
theorem wk_3 : onAll [] [uA, uB] = [⟨[97], []⟩, ⟨[98], []⟩] := by rfl
theorem wk_4 : onAll [] [uA] = [⟨[97], []⟩] := by rfl
theorem wk_5 : preL [uA, uB] 1 [] = (0, false) := by
  show preF [uA, uB] [] 1 1 = _
  rw [preF_next (by rw [show [uA, uB].take 1 = [uA] from rfl, wk_4]; simp), preF_end (by rw [show [uA, uB].take (1 + 1) = [uA, uB] from rfl, wk_3]; simp)]
theorem wk_6 : preL [uA, uB] 1 [⟨[97], []⟩] = (1, true) := preF_hit (by rw [show [uA, uB].take 1 = [uA] from rfl, wk_4])
theorem uA_wf : uA.Wf := ⟨by decide, by decide⟩
theorem uB_wf : uB.Wf := ⟨by decide, by decide⟩
/-- A history whose blocks all lie from B on. -/
def His (w : World) (B h : Nat) (all : List Upd) (last : Nat) : Prop := ∃ S a c p b, HisAt w S h a c p b all last ∧ ∀ i, S i → B ≤ i
theorem His.below {w w' : World} {B h : Nat} {all : List Upd} {last : Nat} (H : His w B h all last) (hb : Below w.heap.size w w') : His w' B h all last :=
  let ⟨S, a, c, p, b, h1, h2⟩ := H; ⟨S, a, c, p, b, h1.below hb, h2⟩
theorem His.lt {w : World} {B h : Nat} {all : List Upd} {last : Nat} (H : His w B h all last) : h < w.heap.size ∧ B ≤ h :=
  let ⟨S, a, c, p, b, h1, h2⟩ := H; ⟨h1.lt h h1.sh, h2 h h1.sh⟩
theorem his_new (w : World) : Calls Try.prog 10 #[] w fun e w' => (∃ h, e = .returned (.pointer (some ⟨h, 0, none⟩)) ∧ His w' w.heap.size h [] 0) ∧ Below w.heap.size w w' :=
  (hisNew_any w).mono fun e w' ⟨h1, h2, h3⟩ => ⟨⟨_, h1, _, _, _, _, _, h2, fun i hi => hi.1⟩, h3⟩
theorem his_add (B h : Nat) (all : List Upd) (last : Nat) (u : Upd) (w0 w : World) (hb : Below B w0 w) (hB : B ≤ w.heap.size) (H : His w B h all last) (hu : u.Wf) (hlen : all.length < 1000) :
    Calls Try.prog 17 #[.pointer (some ⟨h, 0, none⟩), .agg #[.int .u8 u.kind, .string (S u.key), .string (S u.val), .int .u64 u.delta]] w fun e w' => e = .returned (.int .i64 (errU (onAll [] all) u : Nat)) ∧ His w' B h (if errU (onAll [] all) u = 0 then all ++ [u] else all) last ∧ Below B w0 w' := by
  obtain ⟨S0, a, c, p, b, h1, h2⟩ := H
  refine (hisAdd_any S0 h a c p b all last u w h1 hu hlen).mono ?_
  rintro e w' ⟨he, ⟨S', a', c', h3, h4⟩, ho⟩
  exact ⟨he, ⟨S', a', c', p, b, h3, fun i hi => by rcases h4 i hi with h5 | h5; exact h2 i h5; omega⟩, ho.below hb h2 hB⟩
theorem his_sync (B h : Nat) (all : List Upd) (last : Nat) (w0 w : World) (hb : Below B w0 w) (hB : B ≤ w.heap.size) (H : His w B h all last) :
    Calls Try.prog 12 #[.pointer (some ⟨h, 0, none⟩)] w fun e w' => e = .returned (.tuple #[]) ∧ His w' B h all all.length ∧ Below B w0 w' := by
  obtain ⟨S0, a, c, p, b, h1, h2⟩ := H
  refine (hisSync_any S0 h a c p b all last w h1).mono ?_
  rintro e w' ⟨he, h3, ho⟩
  exact ⟨he, ⟨S0, a, c, p, b, h3, h2⟩, ho.below hb h2 hB⟩
theorem his_len (B h : Nat) (all : List Upd) (last : Nat) (w : World) (H : His w B h all last) :
    Calls Try.prog 18 #[.pointer (some ⟨h, 0, none⟩)] w fun e w' => e = .returned (.tuple #[.int .i64 (all.length : Nat), .int .i64 (last : Nat)]) ∧ Below w.heap.size w w' := by
  obtain ⟨S0, a, c, p, b, h1, h2⟩ := H
  exact hisLen_any S0 h a c p b all last w h1
theorem his_now (B h : Nat) (all : List Upd) (last : Nat) (w : World) (H : His w B h all last) :
    Calls Try.prog 19 #[.pointer (some ⟨h, 0, none⟩)] w fun e w' => (∃ p' b', e = .returned (.pointer (some ⟨p', 0, none⟩)) ∧ w.heap.size ≤ p' ∧ w.heap.size ≤ b' ∧ ModAt w' p' b' (onAll [] all)) ∧ Below w.heap.size w w' := by
  obtain ⟨S0, a, c, p, b, h1, h2⟩ := H
  exact hisNow_any S0 h a c p b all last w h1
theorem his_pre (B h : Nat) (all : List Upd) (last : Nat) (a2 : Option Addr) (c2 n : Nat) (y : List Ent) (w : World) (H : His w B h all last) (hn : y.length = n) (hy : SlAt Ent.cells 2 w a2 y) (hly : y.length ≤ 1000000) :
    Calls Try.prog 23 #[.pointer (some ⟨h, 0, none⟩), .slice a2 n c2] w fun e w' => e = .returned (.tuple #[.int .i64 ((preL all last y).1 : Nat), .bool (preL all last y).2]) ∧ Below w.heap.size w w' := by
  subst hn
  obtain ⟨S0, a, c, p, b, h1, h2⟩ := H
  exact hisPre_any S0 h a c p b all last a2 c2 y w h1 hy hly
theorem slE_one (w : World) (g : Nat) (e : Ent) (t : TypeId) (hg : w.heap.size = g) : SlAt Ent.cells 2 (w.alloc (.cells #[.string (S e.key), .string (S e.val)] t)) (some ⟨g, 0, none⟩) [e] := by
  refine Or.inr ⟨g, 0, rfl, by simp; omega, fun i hi j x hx => ?_⟩
  obtain rfl : i = 0 := by simpa using hi
  subst hg
  rw [World.cell?_alloc_at _ _ _ _ rfl]
  simpa [Ent.cells] using hx

set_option maxRecDepth 100000 in
set_option maxHeartbeats 8000000 in
theorem wakes29 (w : World) : Calls Try.prog 11 #[] w fun e w' => e = .returned (.bool true) ∧ Below w.heap.size w w' := by
  go_enter Try.func11, Try.ntmps11
  go_wp2_with fail
  refine (his_new w).mono ?_
  rintro e w1 ⟨⟨h, rfl, h1⟩, hB⟩
  have H1 := Lib.hid h1
  have HB1 := Lib.hid hB
  clear h1 hB
  go_wp2_with fail
  refine (his_add w.heap.size h [] 0 uA w w1 HB1.out HB1.out.size H1.out uA_wf (by decide)).mono ?_
  rintro e w2 ⟨rfl, h2, hB⟩
  have H2 := Lib.hid (show His w2 w.heap.size h [uA] 0 from by rw [wk_1] at h2; exact h2)
  rw [wk_1]
  have HB2 := Lib.hid hB
  clear h2 hB H1 HB1
  go_wp2_with fail
  refine (his_sync w.heap.size h [uA] 0 w w2 HB2.out HB2.out.size H2.out).mono ?_
  rintro e w3 ⟨rfl, h3, hB⟩
  have H3 := Lib.hid (show His w3 w.heap.size h [uA] 1 from h3)
  have HB3 := Lib.hid hB
  clear h3 hB H2 HB2
  go_wp2_with fail
  refine (his_add w.heap.size h [uA] 1 uB w w3 HB3.out HB3.out.size H3.out uB_wf (by decide)).mono ?_
  rintro e w4 ⟨rfl, h4, hB⟩
  have H4 := Lib.hid (show His w4 w.heap.size h [uA, uB] 1 from by rw [wk_2] at h4; exact h4)
  rw [wk_2]
  have HB4 := Lib.hid hB
  clear h4 hB H3 HB3
  go_wp2_with fail
  refine (his_pre w.heap.size h [uA, uB] 1 none 0 0 [] w4 H4.out rfl (Or.inl rfl) (by decide)).mono ?_
  rintro e w5 ⟨rfl, hB⟩
  rw [wk_5]
  have H5 := Lib.hid (H4.out.below hB)
  have HB5 := Lib.hid (HB4.out.trans (hB.mono HB4.out.size))
  clear hB H4 HB4
  go_upto_region 6 with (fail)
  have hX : Below w5.heap.size w5 (w5.alloc (.cells #[.string (S [97]), .string (S [])] 55)) := by go_grown
  have HE := Lib.hid (slE_one w5 w5.heap.size ⟨[97], []⟩ 55 rfl)
  have H6 := Lib.hid (H5.out.below hX)
  have HB6 := Lib.hid (HB5.out.trans (hX.mono HB5.out.size))
  clear hX
  go_wp2_with fail
  refine (his_pre w.heap.size h [uA, uB] 1 (some ⟨w5.heap.size, 0, none⟩) 1 1 [⟨[97], []⟩] _ H6.out rfl HE.out (by decide)).mono ?_
  rintro e w7 ⟨rfl, hB⟩
  rw [wk_6]
  have H7 := Lib.hid (H6.out.below hB)
  have HB7 := Lib.hid (HB6.out.trans (hB.mono HB6.out.size))
  clear hB H6 HB6 H5 HB5 HE
  go_wp2_with fail
  refine (his_len w.heap.size h [uA, uB] 1 w7 H7.out).mono ?_
  rintro e w8 ⟨rfl, hB⟩
  have H8 := Lib.hid (H7.out.below hB)
  have HB8 := Lib.hid (HB7.out.trans (hB.mono HB7.out.size))
  clear hB H7 HB7
  go_wp2_with fail
  refine (his_now w.heap.size h [uA, uB] 1 w8 H8.out).mono ?_
  rintro e w9 ⟨⟨p', b', rfl, g1, g2, g3⟩, hB⟩
  have HM := Lib.hid g3
  have HB9 := Lib.hid (HB8.out.trans (hB.mono HB8.out.size))
  clear hB H8 HB8 g1 g2 g3
  go_wp2_with fail
  refine (modLen_any p' b' _ w9 HM.out).mono ?_
  rintro e w10 ⟨rfl, hB⟩
  rw [wk_3]
  have HB10 := Lib.hid (HB9.out.trans (hB.mono HB9.out.size))
  go_wp2_with fail
  go_ret
  exact ⟨rfl, HB10.out⟩

end Go.Proofs.Ythcjcmalfnfjkaa
