/-
  The walk of Next: nil, an error, nothing left, one told.
-/
import Derived.Test.YthcjcmalfnfjkaaSkd
import Derived.Deep.DeepCutAuto
namespace Go.Proofs.Ythcjcmalfnfjkaa
open Go.RowKit
set_option linter.unusedVariables false
attribute [local go_sem ↓] Go.wp_at_zero Go.wp_at_succ

def entV (x : Ent) : Value := .agg #[.string (S x.key), .string (S x.val)]
def entO : Option Ent → Value
  | none => .agg #[.string ⟨#[]⟩, .string ⟨#[]⟩]
  | some x => entV x
/-- What Next hands back. -/
def tellV (o : Option Ent) (err : Nat) : Value := .tuple #[entO o, .bool o.isSome, .int .i64 err]
theorem under_E : Try.prog.underlying 49 = some (.slice (Try.prog.elem 49)) := by rw [show Try.prog.elem 49 = 55 by kernel_rfl]; exact Try.underlying49
theorem sizeElemE (w : World) : (sizeOf (Try.prog.elem 49)).run Try.prog w = .ok 2 w := by kernel_rfl
theorem slice_tl (b off n c : Nat) (hn : 1 ≤ n) (w : World) : (Instr.slice 49 (.slice (some ⟨b, off, none⟩) n c) (some (.int .i64 1)) none none).run Try.prog w = .ok (.slice (some ⟨b, if c = 1 then off else off + 2, none⟩) (n - 1) (c - 1)) w := by
  rw [run_slice_l w 49 (some ⟨b, off, none⟩) n c under_E .i64 1 (by omega) (by omega)]
  rw [sizeElemE]
  simp only [Result.andThen, sliced]
  by_cases h : c = 1
  · subst h; simp
  · have h' : ¬ (1 : Int).toNat = c := by show ¬ 1 = c; omega
    simp [Addr.add, h]
theorem LeftAt.pop {w : World} {B1 b off c : Nat} {x : Ent} {t : List Ent} (h : LeftAt w B1 (.slice (some ⟨b, off, none⟩) (x :: t).length c) (x :: t)) : LeftAt w B1 (.slice (some ⟨b, if c = 1 then off else off + 2, none⟩) t.length (c - 1)) t := by
  obtain ⟨ao, c', e, h1, h2, h3⟩ := h
  simp only [Value.slice.injEq] at e
  obtain ⟨rfl, -, rfl⟩ := e
  simp only [List.length_cons] at h1
  refine ⟨_, _, rfl, by omega, by omega, ?_⟩
  rcases h3 with h3 | ⟨b', off', cur, e, h4, h5, h6⟩
  · simp at h3
  · simp only [Option.some.injEq, Addr.mk.injEq, and_true] at e
    obtain ⟨rfl, rfl⟩ := e
    by_cases hc : c = 1
    · left; exact List.length_eq_zero_iff.1 (by omega)
    · right
      rw [if_neg hc]
      refine ⟨_, _, cur, rfl, h4, h5, fun i hi j y hy => ?_⟩
      have := h6 (i + 1) (by simp; omega) j y hy
      rw [← this]
      congr 1
      omega
theorem LeftAt.head {w : World} {B1 : Nat} {ao : Option Addr} {n c : Nat} {x : Ent} {t : List Ent} (h : LeftAt w B1 (.slice ao n c) (x :: t)) : ∃ b off, ao = some ⟨b, off, none⟩ ∧ B1 ≤ b ∧ b < w.heap.size ∧ w.cell? ⟨b, off, none⟩ = some (.string (S x.key)) ∧ w.cell? ⟨b, off + 1, none⟩ = some (.string (S x.val)) := by
  obtain ⟨ao', c', e, h1, h2, h3⟩ := h
  simp only [Value.slice.injEq] at e
  obtain ⟨rfl, -, rfl⟩ := e
  rcases h3 with h3 | ⟨b, off, cur, e, h4, h5, h6⟩
  · simp at h3
  · have e0 := h6 0 (by simp) 0 (.string (S x.key)) rfl
    have e1 := h6 0 (by simp) 1 (.string (S x.val)) rfl
    simp only [Nat.zero_mul, Nat.add_zero] at e0 e1
    exact ⟨b, off, e, h4, h5.lt, (h5.cell off).trans e0, (h5.cell (off + 1)).trans e1⟩
theorem CuAt.popped {w : World} {B0 B1 p q : Nat} {C : CurS} (hc : CuAt w B0 B1 p q C) {a : Option Addr} {n c : Nat} {l : List Ent} (hv : LeftAt w B1 (.slice a n c) l) (k : List UInt8) : CuAt ((w.setCell ⟨p, 4, none⟩ (.slice a n c)).setCell ⟨p, 1, none⟩ (.string (S k))) B0 B1 p q { C with left := l, place := k } := by
  obtain ⟨v4, h4, -⟩ := hc.c4
  have oth : ∀ o, o ≠ 4 → o ≠ 1 → ((w.setCell ⟨p, 4, none⟩ (.slice a n c)).setCell ⟨p, 1, none⟩ (.string (S k))).cell? ⟨p, o, none⟩ = w.cell? ⟨p, o, none⟩ := fun o h4 h5 => by
    rw [World.cell?_setCell_other _ _ _ _ (addr_ne (Or.inr (Ne.symm h5))), World.cell?_setCell_other _ _ _ _ (addr_ne (Or.inr (Ne.symm h4)))]
  refine ⟨(oth 0 (by decide) (by decide)).trans hc.c0, ?_, (oth 2 (by decide) (by decide)).trans hc.c2, (oth 3 (by decide) (by decide)).trans hc.c3, ⟨.slice a n c, ?_, (hv.setCell hc.lt _).setCell hc.lt _⟩, (oth 5 (by decide) (by decide)).trans hc.c5, ?_, ?_, ?_, hc.lt, hc.ne, hc.ge⟩
  · exact World.cell?_setCell_same _ _ _ ((World.cell?_setCell_other _ _ _ _ (addr_ne (Or.inr (by decide)))).trans hc.c1)
  · rw [World.cell?_setCell_other _ _ _ _ (addr_ne (Or.inr (by decide)))]; exact World.cell?_setCell_same _ _ _ h4
  · rw [World.frozen?_setCell, World.frozen?_setCell]; exact hc.f1
  · rw [World.frozen?_setCell, World.frozen?_setCell]; exact hc.f4
  · rw [World.frozen?_setCell, World.frozen?_setCell]; exact hc.f5

theorem next_nil (w : World) : Calls Try.prog 28 #[.pointer none] w fun e w' => e = .returned (tellV none 1) ∧ Below w.heap.size w w' := by
  go_enter Try.func28, Try.ntmps28
  go_wp2_with fail
  refine bodyPost_ret (v := tellV none 1) (by simp [results, Try.results28, go_sem]; rfl) rfl ⟨rfl, by go_grown⟩

/-- Next, told by nextS. -/
def NextPost (w : World) (B0 B1 p q : Nat) (va : Value) (L : List Ent) (fail : Int) (R : Option Ent × Nat × List Int × CurS) (e : Ending) (w' : World) : Prop :=
  e = .returned (tellV R.1 R.2.1) ∧ ∃ va', St w' B0 B1 p q va' L fail R.2.2.1 R.2.2.2 ∧ Chg p q va w w' ∧ (va'.ownBlock = va.ownBlock ∨ ∃ k, va'.ownBlock = some k ∧ w.heap.size ≤ k) ∧ ∀ z, z < w.heap.size → NotAt w p z → NotAt w' p z

set_option maxRecDepth 100000 in
set_option maxHeartbeats 4000000 in
theorem next_none (B0 B1 p q : Nat) (va : Value) (L : List Ent) (A A' : List Int) (fail : Int) (C C' : CurS) (err : Nat) (w : World) (h : St w B0 B1 p q va L fail A C) (hA : A.length ≤ 1000000) (hL : L.length ≤ 1000) (hR : fillS L fail A C = (err, A', C')) (hn : err ≠ 0 ∨ C'.left = []) (he : err ≤ 100) :
    Calls Try.prog 28 #[.pointer (some ⟨p, 0, none⟩)] w (NextPost w B0 B1 p q va L fail (none, err, A', C')) := by
  have HF := Lib.hid (fun W hW => fill_any B0 B1 p q va L A fail C W hW hA hL)
  rw [hR] at HF
  unfold FillPost at HF
  have HS := Lib.hid h
  clear hR
  have hle := h.le
  have hlt := h.cu.lt
  have hq := h.sh.lt
  have hvl : ∀ k, va.ownBlock = some k → k < w.heap.size := fun k e => (h.sh.own.lt k e).2
  have HNZ := Lib.hid (h.notAt (z := w.heap.size) (Nat.le_refl _))
  have HVL := Lib.hid hvl
  clear h hvl
  go_enter Try.func28, Try.ntmps28
  go_wp2_with fail
  refine (HF.out _ (HS.out.on (by go_grown))).mono ?_
  rintro e w1 ⟨rfl, va', hst, hch, hvb, hnt⟩
  have z0 : w1.cell? ⟨w.heap.size, 0, none⟩ = some (.string ⟨#[]⟩) := hch.cell (by simp) (by omega) (by omega) (fun e => by have := HVL.out _ e; omega)
  have z1 : w1.cell? ⟨w.heap.size, 1, none⟩ = some (.string ⟨#[]⟩) := hch.cell (by simp) (by omega) (by omega) (fun e => by have := HVL.out _ e; omega)
  have y0 : w1.frozen? ⟨w.heap.size, 0, none⟩ = false := hch.frozen (o' := 0) (v := .string ⟨#[]⟩) (by simp) (by simp) (by omega) (by omega) (fun e => by have := HVL.out _ e; omega)
  have y1 : w1.frozen? ⟨w.heap.size, 1, none⟩ = false := hch.frozen (o' := 0) (v := .string ⟨#[]⟩) (by simp) (by simp) (by omega) (by omega) (fun e => by have := HVL.out _ e; omega)
  have hsz1 : w.heap.size < w1.heap.size := World.block_lt_of_cell? w1 _ z0
  have hva' : va'.ownBlock ≠ some w.heap.size := fun e => by
    rcases hvb with hb | hb
    · rw [hb] at e; have := HVL.out _ e; omega
    · rw [hb] at e; injection e with e; rw [World.size_alloc] at e; omega
  have hnz : NotAt w1 p w.heap.size := hnt _ (by simp) (fun a n c hcell => HNZ.out a n c (by rw [World.cell?_alloc_past _ _ _ (by show p < w.heap.size; omega)] at hcell; exact hcell))
  have HNT := Lib.hid (fun (z : Nat) (hz : z < w.heap.size) (hn : NotAt w p z) => ((hnt z (by rw [World.size_alloc]; omega) (fun a n c hcell => hn a n c (by rw [World.cell?_alloc_past _ _ _ (by show p < w.heap.size; omega)] at hcell; exact hcell))).setCell (z' := w.heap.size) (o := 0) (by omega) (.string ⟨#[]⟩)).setCell (z' := w.heap.size) (o := 1) (by omega) (.string ⟨#[]⟩))
  have HST := Lib.hid (hst.put hle hnz hva' (o := 0) (.string ⟨#[]⟩))
  have HST2 := Lib.hid (HST.out.put hle (hnz.setCell (by omega) _) hva' (o := 1) (.string ⟨#[]⟩))
  have HCG := Lib.hid (show Chg p q va w ((w1.setCell ⟨w.heap.size, 0, none⟩ (.string ⟨#[]⟩)).setCell ⟨w.heap.size, 1, none⟩ (.string ⟨#[]⟩)) from
    ⟨hch.os, hch.tape, hch.output, by simp only [World.size_setCell]; omega, fun k hk h1 h2 h3 => by
      rw [Below.heap_setCell _ _ _ _ (by show k ≠ w.heap.size; omega), Below.heap_setCell _ _ _ _ (by show k ≠ w.heap.size; omega), hch.block k (by rw [World.size_alloc]; omega) h1 h2 h3]
      exact Below.heap_alloc w _ k hk⟩)
  have HVB := Lib.hid (show va'.ownBlock = va.ownBlock ∨ ∃ k, va'.ownBlock = some k ∧ w.heap.size ≤ k from hvb.imp id (fun e => ⟨_, e, by simp; omega⟩))
  obtain ⟨v4, c4, hv4⟩ := hst.cu.c4
  obtain ⟨ao, cc, rfl, -⟩ := hv4
  clear hch hvb hnt hst hva' hnz HF
  rcases hn with hn | hn
  · have hn' : ((err : Int) == 0) = false := by simp; omega
    go_wp2_with fail
    refine bodyPost_ret (v := tellV none err) (by simp [results, Try.results28, go_sem, z0, z1]; rfl) rfl ⟨rfl, va', HST2.out, HCG.out, HVB.out, HNT.out⟩
  · by_cases h0 : err = 0
    · subst h0
      rw [hn] at c4
      go_wp2_with fail
      refine bodyPost_ret (v := tellV none 0) (by simp [results, Try.results28, go_sem, z0, z1]; rfl) rfl ⟨rfl, va', HST2.out, HCG.out, HVB.out, HNT.out⟩
    · have hn' : ((err : Int) == 0) = false := by simp; omega
      go_wp2_with fail
      refine bodyPost_ret (v := tellV none err) (by simp [results, Try.results28, go_sem, z0, z1]; rfl) rfl ⟨rfl, va', HST2.out, HCG.out, HVB.out, HNT.out⟩

set_option maxRecDepth 100000 in
set_option maxHeartbeats 4000000 in
theorem next_some (B0 B1 p q : Nat) (va : Value) (L : List Ent) (A A' : List Int) (fail : Int) (C C' : CurS) (x : Ent) (t : List Ent) (w : World) (h : St w B0 B1 p q va L fail A C) (hA : A.length ≤ 1000000) (hL : L.length ≤ 1000) (hR : fillS L fail A C = (0, A', C')) (hn : C'.left = x :: t) (hx : x.key.length ≤ 1000000) :
    Calls Try.prog 28 #[.pointer (some ⟨p, 0, none⟩)] w (NextPost w B0 B1 p q va L fail (some x, 0, A', { C' with left := t, place := x.key ++ [0] })) := by
  have HF := Lib.hid (fun W hW => fill_any B0 B1 p q va L A fail C W hW hA hL)
  rw [hR] at HF
  unfold FillPost at HF
  have HS := Lib.hid h
  clear hR
  have hle := h.le
  have hlt := h.cu.lt
  have hq := h.sh.lt
  have hvl : ∀ k, va.ownBlock = some k → k < w.heap.size := fun k e => (h.sh.own.lt k e).2
  have HNZ := Lib.hid (h.notAt (z := w.heap.size) (Nat.le_refl _))
  have HVL := Lib.hid hvl
  clear h hvl
  go_enter Try.func28, Try.ntmps28
  go_wp2_with fail
  refine (HF.out _ (HS.out.on (by go_grown))).mono ?_
  rintro e w1 ⟨rfl, va', hst, hch, hvb, hnt⟩
  have z0 : w1.cell? ⟨w.heap.size, 0, none⟩ = some (.string ⟨#[]⟩) := hch.cell (by simp) (by omega) (by omega) (fun e => by have := HVL.out _ e; omega)
  have z1 : w1.cell? ⟨w.heap.size, 1, none⟩ = some (.string ⟨#[]⟩) := hch.cell (by simp) (by omega) (by omega) (fun e => by have := HVL.out _ e; omega)
  have y0 : w1.frozen? ⟨w.heap.size, 0, none⟩ = false := hch.frozen (o' := 0) (v := .string ⟨#[]⟩) (by simp) (by simp) (by omega) (by omega) (fun e => by have := HVL.out _ e; omega)
  have y1 : w1.frozen? ⟨w.heap.size, 1, none⟩ = false := hch.frozen (o' := 0) (v := .string ⟨#[]⟩) (by simp) (by simp) (by omega) (by omega) (fun e => by have := HVL.out _ e; omega)
  have hsz1 : w.heap.size < w1.heap.size := World.block_lt_of_cell? w1 _ z0
  have hva' : va'.ownBlock ≠ some w.heap.size := fun e => by
    rcases hvb with hb | hb
    · rw [hb] at e; have := HVL.out _ e; omega
    · rw [hb] at e; injection e with e; rw [World.size_alloc] at e; omega
  have hnz : NotAt w1 p w.heap.size := hnt _ (by simp) (fun a n c hcell => HNZ.out a n c (by rw [World.cell?_alloc_past _ _ _ (by show p < w.heap.size; omega)] at hcell; exact hcell))
  have HVB := Lib.hid (show va'.ownBlock = va.ownBlock ∨ ∃ k, va'.ownBlock = some k ∧ w.heap.size ≤ k from hvb.imp id (fun e => ⟨_, e, by simp; omega⟩))
  obtain ⟨v4, c4, hv4⟩ := hst.cu.c4
  obtain ⟨ao, cc, rfl, hl4⟩ := id hv4
  rw [hn] at c4 hv4
  obtain ⟨b, off, rfl, hb1, hb2, d0, d1⟩ := hv4.head
  have hbz : b ≠ w.heap.size := hnz _ _ _ c4 (by simp) _ rfl
  have hpop := hv4.pop
  have c1 := hst.cu.c1
  have g1 := hst.cu.f1
  have g4 := hst.cu.f4
  have HST := Lib.hid hst
  have HPOP := Lib.hid hpop
  have HCH := Lib.hid hch
  have HNZ1 := Lib.hid hnz
  have HNB := Lib.hid (fun (z : Nat) (hz : z < w.heap.size) (hn : NotAt w p z) => (hnt z (by rw [World.size_alloc]; omega) (fun a n c hcell => hn a n c (by rw [World.cell?_alloc_past _ _ _ (by show p < w.heap.size; omega)] at hcell; exact hcell))) _ _ _ c4 (by simp) _ rfl)
  have HVA := Lib.hid hva'
  have HCC := Lib.hid (LeftAt.form hv4)
  have hs4 : ∀ W, (Instr.slice 49 (.slice (some ⟨b, off, none⟩) (t.length + 1) cc) (some (.int .i64 1)) none none).run Try.prog W = .ok (.slice (some ⟨b, if cc = 1 then off else off + 2, none⟩) t.length (cc - 1)) W := fun W => by simpa using slice_tl b off (t.length + 1) cc (by omega) W
  generalize (if cc = 1 then off else off + 2) = oz at *
  have haf := fun W => after_any x.key hx W
  clear hch hvb hnt hst hva' hnz HF hv4 hl4 hpop
  have hpz : p < w1.heap.size := World.block_lt_of_cell? w1 _ c4
  have hzz : w.heap.size < w1.heap.size := hsz1
  go_upto_region 9 with (fail)
  have hBe := Below.refl w1.heap.size w1
  obtain ⟨W2, hW_W2⟩ : ∃ W2, W2 = (w1.alloc (.cells #[.string (S x.key), .string (S x.val)] 55)) := ⟨_, rfl⟩
  rw [← hW_W2]
  have hX_W2 : Below w1.heap.size w1 W2 := by rw [hW_W2]; go_grown
  have u0 : W2.cell? ⟨w1.heap.size, 0, none⟩ = some (.string (S x.key)) := by rw [hW_W2, World.cell?_alloc_at _ _ _ _ (by simp)]; rfl
  have u1 : W2.cell? ⟨w1.heap.size, 1, none⟩ = some (.string (S x.val)) := by rw [hW_W2, World.cell?_alloc_at _ _ _ _ (by simp)]; rfl
  clear hW_W2
  have hz_W2 := hX_W2.size
  replace g1 := kept_frozen hX_W2 c1 g1
  replace g4 := kept_frozen hX_W2 c4 g4
  replace y0 := kept_frozen hX_W2 z0 y0
  replace y1 := kept_frozen hX_W2 z1 y1
  replace c1 := kept_cell hX_W2 c1
  replace c4 := kept_cell hX_W2 c4
  replace z0 := kept_cell hX_W2 z0
  replace z1 := kept_cell hX_W2 z1
  replace hBe := hBe.trans (hX_W2.mono hBe.size)
  clear hX_W2
  go_region_law (first | (go_simp; go_at_call 42; refine (haf _).mono ?_; rintro e w6 ⟨rfl, rfl⟩))
  all_goals
    have hwp : w.heap.size ≠ p := by omega
    have hwp1 : w1.heap.size ≠ p := by omega
    obtain ⟨ws, hws⟩ : ∃ ws, ws = (W2.setCell ⟨p, 4, none⟩ (.slice (some ⟨b, oz, none⟩) t.length (cc - 1))).setCell ⟨p, 1, none⟩ (.string (S (x.key ++ [0]))) := ⟨_, rfl⟩
    rw [← hws]
    have Z0 : ws.cell? ⟨w.heap.size, 0, none⟩ = some (.string ⟨#[]⟩) := by rw [hws, World.cell?_setCell_other _ _ _ _ (addr_ne (Or.inl (Ne.symm hwp))), World.cell?_setCell_other _ _ _ _ (addr_ne (Or.inl (Ne.symm hwp)))]; exact z0
    have Z1 : ws.cell? ⟨w.heap.size, 1, none⟩ = some (.string ⟨#[]⟩) := by rw [hws, World.cell?_setCell_other _ _ _ _ (addr_ne (Or.inl (Ne.symm hwp))), World.cell?_setCell_other _ _ _ _ (addr_ne (Or.inl (Ne.symm hwp)))]; exact z1
    have U0 : ws.cell? ⟨w1.heap.size, 0, none⟩ = some (.string (S x.key)) := by rw [hws, World.cell?_setCell_other _ _ _ _ (addr_ne (Or.inl (Ne.symm hwp1))), World.cell?_setCell_other _ _ _ _ (addr_ne (Or.inl (Ne.symm hwp1)))]; exact u0
    have U1 : ws.cell? ⟨w1.heap.size, 1, none⟩ = some (.string (S x.val)) := by rw [hws, World.cell?_setCell_other _ _ _ _ (addr_ne (Or.inl (Ne.symm hwp1))), World.cell?_setCell_other _ _ _ _ (addr_ne (Or.inl (Ne.symm hwp1)))]; exact u1
    have Y0 : ws.frozen? ⟨w.heap.size, 0, none⟩ = false := by rw [hws, World.frozen?_setCell, World.frozen?_setCell]; exact y0
    have Y1 : ws.frozen? ⟨w.heap.size, 1, none⟩ = false := by rw [hws, World.frozen?_setCell, World.frozen?_setCell]; exact y1
    have hN : NotAt ws p w.heap.size := by
      intro a n c hcell hn ad had
      rw [hws, World.cell?_setCell_other _ _ _ _ (addr_ne (Or.inr (by decide))), World.cell?_setCell_same _ _ _ c4] at hcell
      simp only [Option.some.injEq, Value.slice.injEq] at hcell
      obtain ⟨rfl, rfl, rfl⟩ := hcell
      injection had with had
      rw [← had]
      exact hbz
    have hst : St ws B0 B1 p q va' L fail A' { C' with left := t, place := x.key ++ [0] } := by
      rw [hws]
      refine ⟨(HST.out.cu.on hBe).popped (HPOP.out.on hBe) _, ((HST.out.sh.on hBe).setCell hlt HST.out.cu.ge HST.out.cu.ne _).setCell hlt HST.out.cu.ge HST.out.cu.ne _, ?_⟩
      simp only [World.size_setCell]
      have := hBe.size
      omega
    have HS1 := hst.put hle hN HVA.out (o := 0) (.string (S x.key))
    have HS2 := Lib.hid (HS1.put hle (hN.setCell hwp _) HVA.out (o := 1) (.string (S x.val)))
    have hbk : ∀ k, k < w.heap.size → k ≠ p → k ≠ q → va.ownBlock ≠ some k → ws.heap[k]? = w.heap[k]? := fun k hk h1 h2 h3 => by
      rw [hws, Below.heap_setCell _ _ _ _ h1, Below.heap_setCell _ _ _ _ h1, hBe.block k (by omega), HCH.out.block k (by rw [World.size_alloc]; omega) h1 h2 h3]
      exact Below.heap_alloc w _ k hk
    have hsz : w.heap.size ≤ ws.heap.size := by rw [hws]; simp only [World.size_setCell]; have := hBe.size; omega
    have HCG := Lib.hid (show Chg p q va w ((ws.setCell ⟨w.heap.size, 0, none⟩ (.string (S x.key))).setCell ⟨w.heap.size, 1, none⟩ (.string (S x.val))) from
      ⟨by rw [hws]; exact hBe.os.trans HCH.out.os, by rw [hws]; exact hBe.tape.trans HCH.out.tape, by rw [hws]; exact hBe.output.trans HCH.out.output, by simp only [World.size_setCell]; exact hsz, fun k hk h1 h2 h3 => by
        rw [Below.heap_setCell _ _ _ _ (by show k ≠ w.heap.size; omega), Below.heap_setCell _ _ _ _ (by show k ≠ w.heap.size; omega)]
        exact hbk k hk h1 h2 h3⟩)
    have HNT : Hid (∀ z, z < w.heap.size → NotAt w p z → NotAt ((ws.setCell ⟨w.heap.size, 0, none⟩ (.string (S x.key))).setCell ⟨w.heap.size, 1, none⟩ (.string (S x.val))).drew p z) := Lib.hid (fun z hz hn => by
      have h1 : NotAt ws p z := by
        intro a n c hcell hn' ad had
        rw [hws, World.cell?_setCell_other _ _ _ _ (addr_ne (Or.inr (by decide))), World.cell?_setCell_same _ _ _ c4] at hcell
        simp only [Option.some.injEq, Value.slice.injEq] at hcell
        obtain ⟨rfl, rfl, rfl⟩ := hcell
        injection had with had
        rw [← had]
        exact HNB.out z hz hn
      exact (h1.setCell hwp _).setCell hwp _)
    clear hst HS1 hbk hN hws z0 z1 u0 u1 y0 y1 c1 c4
    go_wp2_with fail
    refine bodyPost_ret (v := tellV (some x) 0) (by simp [results, Try.results28, go_sem, Z0, Z1]; rfl) rfl ⟨rfl, va', HS2.out.on (below_drew' (Below.refl _ _)), HCG.out.trans (Chg.of_below (va := va) (below_drew' (Below.refl _ _))) (fun i _ e => e), HVB.out, HNT.out⟩

end Go.Proofs.Ythcjcmalfnfjkaa
