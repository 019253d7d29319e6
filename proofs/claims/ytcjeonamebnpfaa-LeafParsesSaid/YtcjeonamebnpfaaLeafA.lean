/-
  The walk of (leaf.Leaf).On: what updates make of a leaf.
-/
import Derived.Test.YtcjeonamebnpfaaLeafP
import Derived.Test.YtcjeonamebnpfaaUse
namespace Go.Proofs.Ytcjeonamebnpfaa
open Go.RowKit
attribute [local go_sem ↓] Go.wp_at_zero Go.wp_at_succ

set_option maxRecDepth 100000 in
set_option maxHeartbeats 4000000 in
theorem leafOn_any (v : Value) (l : List Ent) (s : Value) (us : List Upd) (w : World) (hv : BoxE w v l) (hl : l.length ≤ 10000) (hr : Rising Ent.key l) (hf : FineE l) (hs : SlU w s us) (hu : ∀ u ∈ us, u.Wf) (hul : us.length ≤ 10000) :
    Calls Try.prog 16 #[v, s] w fun e w' => (∃ a c, e = .returned (.agg #[.slice a (onAll l us).length c]) ∧ BoxE w' (.agg #[.slice a (onAll l us).length c]) (onAll l us)) ∧ Below w.heap.size w w' := by
  obtain ⟨s0, rfl, hs0⟩ := hv
  have HL := Lib.hid (fun w (h : SlE w s0 l) => listE (.agg #[s0]) l w ⟨s0, rfl, h⟩ (by omega))
  have HS0 := Lib.hid hs0
  have HS := Lib.hid hs
  obtain ⟨ua, uc, rfl, -, hc1, hc2, hcn⟩ := hs
  obtain ⟨sa, sc, rfl, -, hd1, hd2, hdn⟩ := hs0
  clear hcn hdn
  go_enter Try.func16, Try.ntmps16
  go_wp2_with fail
  refine (thread (HL.out _ (HS0.out.kept (by go_grown) (Nat.le_refl _))) w.heap.size w (by go_grown) (by go_grown)).mono ?_
  rintro e w1 ⟨⟨v', rfl, hown⟩, hB1, hk1, hf1, hs1, hz1⟩
  obtain ⟨a1, c1, e1⟩ := own_form hown
  subst e1
  have hs1' : w.heap.size + 1 < w1.heap.size := by simp at hs1; omega
  have hown := own_base (B' := w.heap.size + 2) hown (by simp)
  have hL0 : LeafAt (w.heap.size + 2) w1.heap.size l (w1.alloc (.cells #[.slice a1 l.length c1] 45)) := ⟨⟨a1, c1, by simp, hown.alloc _, fun e => by have := (hown.lt _ e).2; omega⟩, by simp, by simp, by omega⟩
  have r5 : w1.cell? ⟨w.heap.size + 1, 0, none⟩ = some (.slice none 0 0) := (hk1 (w.heap.size + 1) 0 (by simp)).trans (by simp)
  have r6 : w1.frozen? ⟨w.heap.size + 1, 0, none⟩ = false := (hf1 (w.heap.size + 1) 0 (by simp)).trans (by simp)
  have HB1 := Lib.hid hB1
  clear hk1 hf1 hs1 hown hB1
  go_wp2_with fail
  go_loopw [13] (fun i wr => ∃ k : Nat, i = .int .i64 k ∧ k ≤ us.length ∧ LeafAt (w.heap.size + 2) w1.heap.size (onAll l (us.take k)) wr ∧ Below (w.heap.size + 2) w1 wr) (fun i _ => us.length - (intOf i).toNat)
  case atStart => exact ⟨0, rfl, Nat.zero_le _, hL0, by go_grown⟩
  case round =>
    obtain ⟨k, rfl, hk, hL, hB⟩ := hrel
    have hk0 : (0 : Int) ≤ (k : Int) := Int.natCast_nonneg _
    obtain ⟨o1, o2, o3⟩ := onAll_ok l hr hf (us.take k)
    have hlen := Lib.hid (show (onAll l (us.take k)).length ≤ 100000 by rw [List.length_take] at o3; omega)
    clear o3
    by_cases hku : k < us.length
    · have hk1 : (k : Int) < (us.length : Int) := by omega
      obtain ⟨b, off, rfl, hb, t0, t1, t2, t3⟩ := SlU.cells4 (HS.out.kept (HB1.out.trans (hB.mono (by omega))) (Nat.le_refl _)) k hku
      have hsn := Lib.hid (List.take_succ_eq_append_getElem hku)
      obtain ⟨hw1, hw2⟩ := hu _ (List.getElem_mem hku)
      generalize us[k] = u at *
      have hon := Lib.hid (leaf_on (w.heap.size + 2) w1.heap.size _ u.kind u.key u.val u.delta (wr.alloc (.cells #[.int .u8 u.kind, .string (S u.key), .string (S u.val), .int .u64 u.delta] 31)) (hL.on (by go_grown)) hlen.out o1 (fun e he => by have := (o2 e he).2.2; omega) hw1 hw2)
      have hz := hL.le
      clear hL
      go_wp2_with fail
      refine (hon.out).mono ?_
      rintro e w2 ⟨rfl, hL2, hB2⟩
      have hB3 := hB.trans ((Below.refl _ _).alloc hz _ |>.trans hB2)
      go_wp2_with fail
      go_roundw
      (case rel => exact (⟨k + 1, by go_num, by omega, by rw [hsn.out, onAll_snoc]; exact hL2, hB3⟩))
      (case measure => first | (simp [intOf]; done) | (simp [intOf]; omega))
    · obtain rfl : k = us.length := by omega
      rw [List.take_length] at hL
      obtain ⟨⟨a, c, h1, h2, h3⟩, h4, h5, h6⟩ := hL
      have r7 := (cell_below hB (show w.heap.size + 1 < w.heap.size + 2 by omega) 0).trans r5
      have r8 : wr.frozen? ⟨w.heap.size + 1, 0, none⟩ = false := (World.frozen?_of_block (hB.block (w.heap.size + 1) (by omega))).trans r6
      have hne : (Value.slice a (onAll l us).length c).ownBlock ≠ some (w.heap.size + 1) := fun e => by have := (h2.lt _ e).1; omega
      have hbox := fun u => BoxE.of_own (ownsRow_setCell_other (a := ⟨w.heap.size + 1, 0, none⟩) h2 hne u)
      have hlow := (HB1.out.trans (hB.mono (by omega))).setCell (p := ⟨w.heap.size + 1, 0, none⟩) (by show w.heap.size ≤ w.heap.size + 1; omega) (.slice a (onAll l us).length c)
      have Hbox := Lib.hid hbox
      have Hlow := Lib.hid hlow
      clear hbox hlow h2 h3 h4 hlen o1 o2
      go_wp2_with fail
      exact bodyPost_ret (v := .agg #[.slice a (onAll l us).length c]) (by simp [results, Try.results16, go_sem, r7]) rfl ⟨⟨a, c, rfl, Hbox.out _⟩, Hlow.out⟩

end Go.Proofs.Ytcjeonamebnpfaa
