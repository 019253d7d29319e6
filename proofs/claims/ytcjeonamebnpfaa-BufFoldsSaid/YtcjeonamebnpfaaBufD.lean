/-
  The walk of (buf.Buffer).Cut, with an upper end.
-/
import Derived.Test.YtcjeonamebnpfaaBufC
namespace Go.Proofs.Ytcjeonamebnpfaa
open Go.RowKit

set_option maxRecDepth 100000 in
set_option maxHeartbeats 4000000 in
theorem cut_some (v : Value) (l : List Upd) (low high : List UInt8) (w : World) (hne : high ≠ []) (hv : BoxU w v l) (hl : l.length ≤ 100000) (hr : Rising Upd.key l) :
    Calls Try.prog 15 #[v, .string (S low), .string (S high)] w fun e w' => (∃ v1 v2, e = .returned (.tuple #[v1, v2]) ∧ BoxU w' v1 (cutIn l low high) ∧ BoxU w' v2 (cutOut l low high)) ∧ Below w.heap.size w w' := by
  have hmax := fun ts t a b w => run_bmax (P := Try.prog) ts t a b w
  have hfind := fun w hv => findU v l low w hv (by omega) hr
  obtain ⟨hce1, hce2⟩ := cutEnd_le l low high
  have hbm : bmax (below Upd.key l low : Nat) (below Upd.key l high : Nat) = ((cutEnd l low high : Nat) : Int) := by rw [bmax_nat]; unfold cutEnd; rw [if_neg hne]
  have hemp : high.isEmpty = false := by cases high <;> simp at hne ⊢
  have hfind2 := fun w hv => findU v l high w hv (by omega) hr
  obtain ⟨s, rfl, hs⟩ := hv
  obtain ⟨ao, c, rfl, hs0, hc1, hc2, hn⟩ := hs
  obtain ⟨A1, hsl1, hp1⟩ := part_mid ao l.length c (below Upd.key l low) (cutEnd l low high) l w hs0 rfl hc1 hc2 hce1 hce2 hn
  obtain ⟨hsl2, hp2⟩ := part_low ao l.length c (below Upd.key l low) l w hs0 rfl hc1 hc2 (by omega) hn
  obtain ⟨A3, hsl3, hp3⟩ := part_high ao l.length c (cutEnd l low high) l w hs0 rfl hc1 hc2 hce2 hn
  have HF := Lib.hid hfind
  have HF2 := Lib.hid hfind2
  have HS := Lib.hid (show SlU w (.slice ao l.length c) l from ⟨ao, c, rfl, hs0, hc1, hc2, hn⟩)
  have HL1 := Lib.hid (show ((l.drop (below Upd.key l low)).take (cutEnd l low high - below Upd.key l low)).length ≤ 1000000 by rw [List.length_take, List.length_drop]; omega)
  have HL2 := Lib.hid (show (l.take (below Upd.key l low)).length ≤ 100000 by rw [List.length_take]; omega)
  have HL3 := Lib.hid (show (l.drop (cutEnd l low high)).length ≤ 100000 by rw [List.length_drop]; omega)
  have HP1 := Lib.hid hp1
  have HP2 := Lib.hid hp2
  have HP3 := Lib.hid hp3
  have hin : Hid (cutIn l low high = (l.drop (below Upd.key l low)).take (cutEnd l low high - below Upd.key l low)) := Lib.hid rfl
  have hout : Hid (cutOut l low high = l.take (below Upd.key l low) ++ l.drop (cutEnd l low high)) := Lib.hid rfl
  clear hfind hfind2 hn hs0 hr hp1 hp2 hp3 hne
  generalize hi : below Upd.key l low = i at *
  generalize hK : cutEnd l low high = K at *
  generalize hj : below Upd.key l high = j at *
  clear hi hK hj
  have HE : Hid (l.take i ++ l.drop K = l.take i ++ l.drop K) := Lib.hid rfl
  generalize (l.drop i).take (K - i) = L1 at *
  generalize l.take i = L2 at *
  generalize l.drop K = L3 at *
  clear HE
  go_enter Try.func15, Try.ntmps15
  go_wp2_with fail
  refine (thread (HF.out _ ⟨_, rfl, HS.out.kept (by go_grown) (Nat.le_refl _)⟩) w.heap.size w (by go_grown) (by go_grown)).mono ?_
  rintro e w1a ⟨rfl, hB1a, hk1, hf1, hs1, hz1a⟩
  have hs1a' : w.heap.size + 1 + 1 < w1a.heap.size := by simp at hs1; omega
  have p0a := (hk1 w.heap.size 0 (by first | (simp; done) | (simp; omega))).trans (by simp [go_sem]; rfl)
  have p1a := (hk1 (w.heap.size + 1) 0 (by first | (simp; done) | (simp; omega))).trans (by simp [go_sem]; rfl)
  have p2a := (hk1 (w.heap.size + 1 + 1) 0 (by first | (simp; done) | (simp; omega))).trans (by simp [go_sem]; rfl)
  have p3a : w1a.frozen? ⟨w.heap.size + 1, 0, none⟩ = false := (hf1 (w.heap.size + 1) 0 (by first | (simp; done) | (simp; omega))).trans (by simp [go_sem])
  have p4a : w1a.frozen? ⟨w.heap.size + 1 + 1, 0, none⟩ = false := (hf1 (w.heap.size + 1 + 1) 0 (by first | (simp; done) | (simp; omega))).trans (by simp [go_sem])
  clear hk1 hf1 hs1
  go_wp2_with fail
  refine (thread (HF2.out _ ⟨_, rfl, HS.out.kept hB1a (Nat.le_refl _)⟩) w.heap.size w hB1a hz1a).mono ?_
  rintro e w1 ⟨rfl, hB1, hk1, hf1, hs1, hz1⟩
  have hs1' : w.heap.size + 1 + 1 < w1.heap.size := by omega
  have p0 := (hk1 w.heap.size 0 (by omega)).trans p0a
  have p1 := (hk1 (w.heap.size + 1) 0 (by omega)).trans p1a
  have p2 := (hk1 (w.heap.size + 1 + 1) 0 (by omega)).trans p2a
  have p3 := (hf1 (w.heap.size + 1) 0 (by omega)).trans p3a
  have p4 := (hf1 (w.heap.size + 1 + 1) 0 (by omega)).trans p4a
  clear hk1 hf1 hs1 hB1a hz1a hs1a' p0a p1a p2a p3a p4a
  go_wp2_with fail
  go_region_held3 (fun w' => w'.cell? ⟨w.heap.size, 0, none⟩ = some (.slice ao l.length c) ∧ w1.heap.size ≤ w'.heap.size)
  (first | assumption | (constructor <;> (first | assumption | exact k0 _ | exact k1 _ _ | (go_keep; done) | (simp; done) | (simp; omega))))
  (first
    | (go_at_call 46; with_reducible show Calls _ _ _ (World.drew w1) _; go_must (obtain ⟨x0, x1⟩ := ‹_ ∧ _›; refine (thread (cloneU _ _ _ (HP1.out.kept (by go_grown) (Nat.le_refl _)) HL1.out) w.heap.size w (by go_grown) (by go_grown)).mono ?_; rintro e w3 ⟨⟨v3, rfl, hown3⟩, hB3, hk3, hf3, hs3, hz3⟩; obtain ⟨a3, c3, e3⟩ := own_form hown3; subst e3; have y0 := (hk3 w.heap.size 0 (by first | omega | (simp at *; omega))).trans x0; have y1 := (hk3 (w.heap.size + 1) 0 (by first | omega | (simp at *; omega))).trans (cell_drew p1); have y2 := (hk3 (w.heap.size + 1 + 1) 0 (by first | omega | (simp at *; omega))).trans (cell_drew p2); have y3 := (hf3 (w.heap.size + 1) 0 (by first | omega | (simp at *; omega))).trans (frozen_drew p3); have y4 := (hf3 (w.heap.size + 1 + 1) 0 (by first | omega | (simp at *; omega))).trans (frozen_drew p4); have y5 := Nat.le_trans x1 hs3))
    | (go_at_call 46; with_reducible show Calls _ _ _ (World.drew (World.alloc w1 _)) _; go_must (obtain ⟨x0, x1⟩ := ‹_ ∧ _›; refine (thread (cloneU _ _ _ (HP1.out.kept (by go_grown) (Nat.le_refl _)) HL1.out) w.heap.size w (by go_grown) (by go_grown)).mono ?_; rintro e w3 ⟨⟨v3, rfl, hown3⟩, hB3, hk3, hf3, hs3, hz3⟩; obtain ⟨a3, c3, e3⟩ := own_form hown3; subst e3; have y0 := (hk3 w.heap.size 0 (by first | omega | (simp at *; omega))).trans x0; have y1 := (hk3 (w.heap.size + 1) 0 (by first | omega | (simp at *; omega))).trans (cell_drew (cell_past _ p1)); have y2 := (hk3 (w.heap.size + 1 + 1) 0 (by first | omega | (simp at *; omega))).trans (cell_drew (cell_past _ p2)); have y3 := (hf3 (w.heap.size + 1) 0 (by first | omega | (simp at *; omega))).trans (frozen_drew ((World.frozen?_alloc_old _ _ _ (by show w.heap.size + 1 ≠ _; omega)).trans p3)); have y4 := (hf3 (w.heap.size + 1 + 1) 0 (by first | omega | (simp at *; omega))).trans (frozen_drew ((World.frozen?_alloc_old _ _ _ (by show w.heap.size + 1 + 1 ≠ _; omega)).trans p4)); have y5 := Nat.le_trans x1 hs3; have m0 := (hk3 w1.heap.size 0 (by simp)).trans (cell_drew (show _ = some (.slice ao i c) by simp)); have m1 := (hk3 w1.heap.size 1 (by simp)).trans (cell_drew (show _ = some (.slice A3 (l.length - K) (c - K)) by simp)); have mlt : w1.heap.size < w3.heap.size := Nat.lt_of_lt_of_le (by simp) hs3))
    | (go_at_call 50; with_reducible show Calls _ _ _ (World.alloc _ _) _; refine (concat_len w3.heap.size ao A3 i (l.length - K) c (c - K) _ _ _ (by simp) (by simp) (by simp) (HP2.out.kept (by go_grown) (Nat.le_refl _)) (HP3.out.kept (by go_grown) (Nat.le_refl _)) HL2.out HL3.out).mono ?_; rintro e w5 ⟨⟨v5, rfl, hown5⟩, hb5⟩; obtain ⟨a5, c5, e5⟩ := own_form hown5; subst e5; have hown3' := own_below (hown3.alloc _) hb5; have hB5 := (hB3.alloc hz3 _).trans (below_same hb5 (by simp; omega)); have z0 := ((bcell hb5).1 w.heap.size 0 (by simp; omega)).trans (cell_past _ y0); have z1 := ((bcell hb5).1 (w.heap.size + 1) 0 (by simp; omega)).trans (cell_past _ y1); have z2 := ((bcell hb5).1 (w.heap.size + 1 + 1) 0 (by simp; omega)).trans (cell_past _ y2); have z3 := ((bcell hb5).2 (w.heap.size + 1) 0 (by simp; omega)).trans ((World.frozen?_alloc_old _ _ _ (by show w.heap.size + 1 ≠ _; omega)).trans y3); have z4 := ((bcell hb5).2 (w.heap.size + 1 + 1) 0 (by simp; omega)).trans ((World.frozen?_alloc_old _ _ _ (by show w.heap.size + 1 + 1 ≠ _; omega)).trans y4); have z5 : w1.heap.size ≤ w5.heap.size := Nat.le_trans (by simp; omega) hb5.size; have k0 : ∀ u, (w5.setCell ⟨w.heap.size + 1, 0, none⟩ u).cell? ⟨w.heap.size, 0, none⟩ = some (.slice ao l.length c) := fun u => far_block (by omega) z0; have k1 : ∀ u u', ((w5.setCell ⟨w.heap.size + 1, 0, none⟩ u).setCell ⟨w.heap.size + 1 + 1, 0, none⟩ u').cell? ⟨w.heap.size, 0, none⟩ = some (.slice ao l.length c) := fun u u' => far_block (by omega) (k0 u))
    | (go_at_call 50; refine (concat_len w1.heap.size ao A3 i (l.length - K) c (c - K) _ _ _ mlt m0 m1 (HP2.out.kept (by go_grown) (Nat.le_refl _)) (HP3.out.kept (by go_grown) (Nat.le_refl _)) HL2.out HL3.out).mono ?_; rintro e w5 ⟨⟨v5, rfl, hown5⟩, hb5⟩; obtain ⟨a5, c5, e5⟩ := own_form hown5; subst e5; have hown3' := own_below hown3 hb5; have hB5 := hB3.trans (below_same hb5 hz3); have z0 := ((bcell hb5).1 w.heap.size 0 (by omega)).trans y0; have z1 := ((bcell hb5).1 (w.heap.size + 1) 0 (by omega)).trans y1; have z2 := ((bcell hb5).1 (w.heap.size + 1 + 1) 0 (by omega)).trans y2; have z3 := ((bcell hb5).2 (w.heap.size + 1) 0 (by omega)).trans y3; have z4 := ((bcell hb5).2 (w.heap.size + 1 + 1) 0 (by omega)).trans y4; have z5 : w1.heap.size ≤ w5.heap.size := Nat.le_trans (by omega) hb5.size; have k0 : ∀ u, (w5.setCell ⟨w.heap.size + 1, 0, none⟩ u).cell? ⟨w.heap.size, 0, none⟩ = some (.slice ao l.length c) := fun u => far_block (by omega) z0; have k1 : ∀ u u', ((w5.setCell ⟨w.heap.size + 1, 0, none⟩ u).setCell ⟨w.heap.size + 1 + 1, 0, none⟩ u').cell? ⟨w.heap.size, 0, none⟩ = some (.slice ao l.length c) := fun u u' => far_block (by omega) (k0 u)))
  all_goals (
    have hown5' := hown5
    simp only [List.length_append] at hown5'
    have hbx := two_boxes (z := w.heap.size) hown3' hown5' (by first | (simp; omega) | (simp at *; omega)) (by first | omega | (simp; omega)) (.slice a3 L1.length c3) (.slice a5 (L2.length + L3.length) c5)
    have hbl := (hB5.setCell (p := ⟨w.heap.size + 1, 0, none⟩) (by show w.heap.size ≤ w.heap.size + 1; omega) (.slice a3 L1.length c3)).setCell (p := ⟨w.heap.size + 1 + 1, 0, none⟩) (by show w.heap.size ≤ w.heap.size + 1 + 1; omega) (.slice a5 (L2.length + L3.length) c5)
    have HX := Lib.hid hbx
    have HY := Lib.hid hbl
    clear hbx hbl hown3 hown3' hown5 hown5' hB3 hB5 hsl1 hsl2 hsl3 HS HF hmax hbm x0 x1 hk3 hf3 hs3 hz3
    have e1 : ((w5.setCell ⟨w.heap.size + 1, 0, none⟩ (.slice a3 L1.length c3)).setCell ⟨w.heap.size + 1 + 1, 0, none⟩ (.slice a5 (L2.length + L3.length) c5)).cell? ⟨w.heap.size + 1, 0, none⟩ = some (.slice a3 L1.length c3) := far_block (by omega) (World.cell?_setCell_same' _ _ _ (by rw [z1]; rfl))
    have e2 : ((w5.setCell ⟨w.heap.size + 1, 0, none⟩ (.slice a3 L1.length c3)).setCell ⟨w.heap.size + 1 + 1, 0, none⟩ (.slice a5 (L2.length + L3.length) c5)).cell? ⟨w.heap.size + 1 + 1, 0, none⟩ = some (.slice a5 (L2.length + L3.length) c5) := World.cell?_setCell_same' _ _ _ (by rw [far_block (by omega) z2]; rfl)
    generalize (w5.setCell ⟨w.heap.size + 1, 0, none⟩ (.slice a3 L1.length c3)).setCell ⟨w.heap.size + 1 + 1, 0, none⟩ (.slice a5 (L2.length + L3.length) c5) = wf at *
    clear z0 z1 z2 z3 z4 z5 k0 k1
    go_wp2_with fail
    exact bodyPost_ret (v := .tuple #[.agg #[.slice a3 L1.length c3], .agg #[.slice a5 (L2.length + L3.length) c5]]) (by simp [results, Try.results15, go_sem, e1, e2]) rfl ⟨⟨_, _, rfl, by rw [hin.out]; exact HX.out.1, by rw [hout.out]; exact HX.out.2⟩, HY.out⟩)

theorem cut_any (v : Value) (l : List Upd) (low high : List UInt8) (w : World) (hv : BoxU w v l) (hl : l.length ≤ 100000) (hr : Rising Upd.key l) :
    Calls Try.prog 15 #[v, .string (S low), .string (S high)] w fun e w' => (∃ v1 v2, e = .returned (.tuple #[v1, v2]) ∧ BoxU w' v1 (cutIn l low high) ∧ BoxU w' v2 (cutOut l low high)) ∧ Below w.heap.size w w' := by
  by_cases h : high = []
  · subst h; exact cut_all v l low w hv hl hr
  · exact cut_some v l low high w h hv hl hr

end Go.Proofs.Ytcjeonamebnpfaa
