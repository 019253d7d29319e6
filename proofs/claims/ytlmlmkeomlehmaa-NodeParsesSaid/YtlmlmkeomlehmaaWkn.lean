/-
  The walk of law 17's wakes; nodes in boxes.
-/
import Derived.Test.YtlmlmkeomlehmaaTmw
namespace Go.Proofs.Ytlmlmkeomlehmaa
open Go.RowKit
attribute [local go_sem ↓] Go.wp_at_zero Go.wp_at_succ

/-- A node in its box. -/
structure NBox (w : World) (b : Nat) (cs : List Chd) (us : List Upd) (a : Option Addr) (y : Nat) (a2 : Option Addr) (y2 : Nat) : Prop where
  c0 : w.cell? ⟨b, 0, none⟩ = some (.slice a cs.length y)
  c1 : w.cell? ⟨b, 1, none⟩ = some (.slice a2 us.length y2)
  fz : ∀ o, w.frozen? ⟨b, o, none⟩ = false
  at' : NodeAt w (.agg #[.slice a cs.length y, .slice a2 us.length y2]) cs us
theorem NBox.lt {w : World} {b : Nat} {cs : List Chd} {us : List Upd} {a a2 : Option Addr} {y y2 : Nat} (h : NBox w b cs us a y a2 y2) : b < w.heap.size := World.block_lt_of_cell? w _ h.c0
theorem NBox.on {w w' : World} {b : Nat} {cs : List Chd} {us : List Upd} {a a2 : Option Addr} {y y2 : Nat} (h : NBox w b cs us a y a2 y2) (hb : Below w.heap.size w w') : NBox w' b cs us a y a2 y2 :=
  ⟨kept_cell hb h.c0, kept_cell hb h.c1, fun o => ((bcell hb).2 _ o h.lt).trans (h.fz o), h.at'.kept hb (Nat.le_refl _)⟩
theorem NBox.new {w : World} {b : Nat} {cs : List Chd} {us : List Upd} {a a2 : Option Addr} {y y2 : Nat} (hb : w.heap.size = b) (h : NodeAt w (.agg #[.slice a cs.length y, .slice a2 us.length y2]) cs us) (t : TypeId) : NBox (w.alloc (.cells #[.slice a cs.length y, .slice a2 us.length y2] t)) b cs us a y a2 y2 := by
  subst hb
  refine ⟨?_, ?_, fun o => World.frozen?_alloc_at _ _ _ _ rfl, h.kept ((Below.refl _ w).alloc (Nat.le_refl _) _) (Nat.le_refl _)⟩ <;> (rw [World.cell?_alloc_at _ _ _ _ rfl]; rfl)
theorem NodeAt.form' {w : World} {v : Value} {cs : List Chd} {us : List Upd} (h : NodeAt w v cs us) : ∃ a y a2 y2, v = .agg #[.slice a cs.length y, .slice a2 us.length y2] := by
  obtain ⟨a, b, x, y, e, -, -⟩ := h
  exact ⟨a, x, b, y, e⟩

def cs0 : List Chd := [⟨[], 0, 0, 0⟩, ⟨[109], 3, 1, 0⟩]
theorem cs0_right : RightC cs0 := by
  refine ⟨by decide, fun c hc => ?_, fun c hc => ?_, ?_⟩
  · simp only [cs0, List.mem_cons, List.not_mem_nil, or_false] at hc
    rcases hc with rfl | rfl <;> exact ⟨by decide, by decide, by decide, by decide⟩
  · simp only [cs0, List.getElem?_cons_zero, Option.some.injEq] at hc
    rw [← hc]
  · unfold Rising cs0
    simp [bl, Op.bytesLess]
theorem node0 : NodeOk cs0 [] := ⟨cs0_right, by decide, fun u hu => by simp at hu, List.Pairwise.nil⟩
theorem NodeOk.in {cs : List Chd} {us : List Upd} (h : NodeOk cs us) : NodeIn cs us :=
  ⟨by have := h.kids.len; omega, by have := h.len; omega, fun c hc => ⟨by have := (h.kids.ok c hc).addr; omega, (h.kids.ok c hc).gen, (h.kids.ok c hc).sum⟩, fun c hc => by have := (h.kids.ok c hc).low; omega, fun u hu => (h.ok u hu).wf⟩

set_option maxRecDepth 100000 in
set_option maxHeartbeats 8000000 in
theorem wakes17 (w : World) : Calls Try.prog 21 #[] w fun e w' => e = .returned (.bool true) ∧ Below w.heap.size w w' := by
  go_enter Try.func21, Try.ntmps21
  go_upto_region 2 with (fail)
  have hRI := RowIs.new w 100 (cellsC cs0)
  have hown : (w.alloc (.cells (cellsC cs0).toArray 100)).ownsRow w.heap.size 100 4 (.slice (some ⟨w.heap.size, 0, none⟩) 2 2) 2 (cellsC cs0) := ownsRow_shut (Nat.le_refl _) hRI (Nat.le_refl _) (by unfold maxLen; omega) rfl rfl
  obtain ⟨W1, hW1⟩ : ∃ W1, W1 = w.alloc (.cells #[.string ⟨#[]⟩, .int .i64 0, .int .u64 0, .int .u32 0, .string ⟨#[109]⟩, .int .i64 3, .int .u64 1, .int .u32 0] 100) := ⟨_, rfl⟩
  have hW1' : w.alloc (.cells (cellsC cs0).toArray 100) = W1 := hW1.symm
  rw [hW1'] at hown
  rw [← hW1]
  have hX1 : Below w.heap.size w W1 := by rw [hW1]; go_grown
  have hz1 := Lib.hid (show W1.heap.size = w.heap.size + 1 by rw [hW1]; simp)
  have NB := Lib.hid (NBox.new (b := w.heap.size + 1) hz1.out (NodeAt.mk' (slC_row hown).2 (SlU.nil W1) : NodeAt W1 (.agg #[.slice (some ⟨w.heap.size, 0, none⟩) cs0.length 2, .slice none ([] : List Upd).length 0]) cs0 []) 31)
  have HL := Lib.hid (hX1.trans ((show Below W1.heap.size W1 (W1.alloc (.cells #[.slice (some ⟨w.heap.size, 0, none⟩) cs0.length 2, .slice none ([] : List Upd).length 0] 31)) by go_grown).mono hX1.size))
  clear hRI hown hW1 hW1' hX1
  change Code.wp _ _ _ _ (W1.alloc (.cells #[.slice (some ⟨w.heap.size, 0, none⟩) cs0.length 2, .slice none ([] : List Upd).length 0] 31))
  generalize W1.alloc (.cells #[.slice (some ⟨w.heap.size, 0, none⟩) cs0.length 2, .slice none ([] : List Upd).length 0] 31) = W2 at *
  have HT := Lib.hid (fun w' h => nodeText_ok (.agg #[.slice (some ⟨w.heap.size, 0, none⟩) 2 2, .slice none 0 0]) cs0 [] w' h node0.in node0.right)
  have HR := Lib.hid (fun w' h => nodeRight_any (.agg #[.slice (some ⟨w.heap.size, 0, none⟩) 2 2, .slice none 0 0]) cs0 [] w' h node0.in)
  have HG := Lib.hid (fun w' h => range_any (.agg #[.slice (some ⟨w.heap.size, 0, none⟩) 2 2, .slice none 0 0]) cs0 [] 0 w' h (by decide) (by decide))
  have HCm := Lib.hid (fun w' h => child_any (.agg #[.slice (some ⟨w.heap.size, 0, none⟩) 2 2, .slice none 0 0]) cs0 [] [109] w' h (by decide))
  have HCa := Lib.hid (fun w' h => child_any (.agg #[.slice (some ⟨w.heap.size, 0, none⟩) 2 2, .slice none 0 0]) cs0 [] [97] w' h (by decide))
  rw [show chOf cs0 [109] = 1 by decide] at HCm
  rw [show chOf cs0 [97] = 0 by decide] at HCa
  rw [show rngLow cs0 0 = [] by decide, show rngHigh cs0 0 = [109] by decide] at HG
  have hTl : (textN cs0 []).length = 36 := by decide
  have HI := Lib.hid (fun cs us (h : NodeOk cs us) (e : textN cs0 [] = textN cs us) => textN_inj h node0 e)
  have HNo := Lib.hid (fun (h : ∀ cs us, NodeOk cs us → textN cs0 [] ≠ textN cs us) => h cs0 [] node0 rfl)
  generalize textN cs0 [] = T at *
  obtain ⟨c0, c1, -, -⟩ := NB.out
  change W2.cell? ⟨w.heap.size + 1, 0, none⟩ = some (.slice (some ⟨w.heap.size, 0, none⟩) 2 2) at c0
  change W2.cell? ⟨w.heap.size + 1, 1, none⟩ = some (.slice none 0 0) at c1
  go_wp2_with fail
  refine (HT.out W2 NB.out.at').mono ?_
  rintro e w3 ⟨rfl, hB3⟩
  have NB3 := Lib.hid (NB.out.on hB3)
  have HL3 := Lib.hid (HL.out.trans (hB3.mono HL.out.size))
  clear hB3 NB HL c0 c1
  go_wp2_with fail
  refine (nodeParse_any T w3 (by omega)).mono ?_
  rintro e w4 ⟨hres, hB4⟩
  have NB4 := Lib.hid (NB3.out.on hB4)
  have HL4 := Lib.hid (HL3.out.trans (hB4.mono HL3.out.size))
  clear hB4 NB3 HL3
  obtain ⟨cs, us, v, h1, h2, rfl, h4⟩ | ⟨hno, -⟩ := hres
  · obtain ⟨rfl, rfl⟩ := HI.out cs us h2 h1
    obtain ⟨pa, py, pa2, py2, rfl⟩ := h4.form'
    clear h1 h2 h4 HI HNo
    go_upto_region 4 with (fail)
    rw [show cs0.length = 2 from rfl]
    have hX5 : Below w4.heap.size w4 (w4.alloc (.cells #[.slice pa 2 py, .slice pa2 0 py2] 31)) := by go_grown
    have m0 : (w4.alloc (.cells #[.slice pa 2 py, .slice pa2 0 py2] 31)).cell? ⟨w4.heap.size, 0, none⟩ = some (.slice pa 2 py) := by rw [World.cell?_alloc_at _ _ _ _ rfl]; rfl
    have N5 := Lib.hid (NB4.out.on hX5)
    have HL5 := Lib.hid (HL4.out.trans (hX5.mono HL4.out.size))
    generalize w4.alloc (.cells #[.slice pa 2 py, .slice pa2 0 py2] 31) = w5 at *
    clear hX5 NB4 HL4
    obtain ⟨c0, c1, -, -⟩ := N5.out
    change w5.cell? ⟨w.heap.size + 1, 0, none⟩ = some (.slice (some ⟨w.heap.size, 0, none⟩) 2 2) at c0
    change w5.cell? ⟨w.heap.size + 1, 1, none⟩ = some (.slice none 0 0) at c1
    go_wp2_with fail
    refine (HG.out w5 N5.out.at').mono ?_
    rintro e w6 ⟨rfl, hB6⟩
    have N6 := Lib.hid (N5.out.on hB6)
    have HL6 := Lib.hid (HL5.out.trans (hB6.mono HL5.out.size))
    have m0 := kept_cell hB6 m0
    have c0 := kept_cell hB6 c0
    have c1 := kept_cell hB6 c1
    clear hB6 N5 HL5
    go_wp2_with fail
    refine (HR.out w6 N6.out.at').mono ?_
    rintro e w7 ⟨⟨rb, rfl, hrb⟩, hB7⟩
    obtain rfl : rb = true := hrb.2 node0.right
    have N7 := Lib.hid (N6.out.on hB7)
    have HL7 := Lib.hid (HL6.out.trans (hB7.mono HL6.out.size))
    have m0 := kept_cell hB7 m0
    have c0 := kept_cell hB7 c0
    have c1 := kept_cell hB7 c1
    clear hB7 N6 HL6 hrb
    go_wp2_with fail
    refine (HCm.out w7 N7.out.at').mono ?_
    rintro e w8 ⟨rfl, hB8⟩
    have N8 := Lib.hid (N7.out.on hB8)
    have HL8 := Lib.hid (HL7.out.trans (hB8.mono HL7.out.size))
    have m0 := kept_cell hB8 m0
    have c0 := kept_cell hB8 c0
    have c1 := kept_cell hB8 c1
    clear hB8 N7 HL7
    go_wp2_with fail
    refine (HCa.out w8 N8.out.at').mono ?_
    rintro e w9 ⟨rfl, hB9⟩
    have HL9 := Lib.hid (HL8.out.trans (hB9.mono HL8.out.size))
    have m0 := kept_cell hB9 m0
    clear hB9 N8 HL8
    go_wp2_with fail
    go_ret
    exact ⟨rfl, HL9.out⟩
  · exact absurd hno HNo.out

end Go.Proofs.Ytlmlmkeomlehmaa
