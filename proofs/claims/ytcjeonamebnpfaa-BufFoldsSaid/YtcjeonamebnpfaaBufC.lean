/-
  The walk of (buf.Buffer).Cut.
-/
import Derived.Test.YtcjeonamebnpfaaBoxU
import Derived.Test.YtcjeonamebnpfaaConc
import Derived.Deep.RegionHeld3
import Derived.Deep.DrawnRows
namespace Go.Proofs.Ytcjeonamebnpfaa
open Go.RowKit

theorem elemU : Try.prog.elem 24 = 31 := by kernel_rfl
theorem underU : Try.prog.underlying 24 = some (.slice (Try.prog.elem 24)) := by rw [elemU]; exact Try.underlying24
theorem sizeElemU (w : World) : (sizeOf (Try.prog.elem 24)).run Try.prog w = .ok 4 w := by kernel_rfl
/-- A piece of a slice of updates. -/
theorem part_mid (ao : Option Addr) (n c i k : Nat) (l : List Upd) (w : World) (hs : SlAt Upd.cells 4 w ao l) (hl : l.length = n) (hnc : n ≤ c) (hc : (c : Int) ≤ 9223372036854775807) (hik : i ≤ k) (hkn : k ≤ n) (hno : ao = none → c = 0) :
    ∃ A, (∀ w, (Instr.slice 24 (.slice ao n c) (some (.int .i64 (i : Int))) (some (.int .i64 (k : Int))) none).run Try.prog w = .ok (.slice A (k - i) (c - i)) w) ∧ SlU w (.slice A (k - i) (c - i)) ((l.drop i).take (k - i)) := by
  have hlen : ((l.drop i).take (k - i)).length = k - i := by rw [List.length_take, List.length_drop]; omega
  refine ⟨if c = i then ao else ao.map (·.add (i * 4)), fun w => ?_, ?_⟩
  · rw [run_slice_lh w 24 ao n c underU .i64 .i64 i k (by omega) (by omega) (by omega)]
    rw [sizeElemU]; rfl
  · refine ⟨_, c - i, by rw [hlen], ?_, by rw [hlen]; omega, by omega, fun e => ?_⟩
    · by_cases h0 : i < n
      · rw [if_neg (by omega)]
        obtain ⟨b, off, rfl, hb, hcc⟩ := hs.at (by omega)
        rw [show (some (⟨b, off, none⟩ : Addr)).map (·.add (i * 4)) = some ⟨b, off + i * 4, none⟩ by simp [Addr.add]]
        exact (hs.drop i b off rfl).cut _
      · exact Or.inl (List.eq_nil_of_length_eq_zero (by omega))
    · by_cases h0 : c = i
      · omega
      · rw [if_neg h0] at e
        cases ao with
        | none => have := hno rfl; omega
        | some a => simp at e
theorem part_low (ao : Option Addr) (n c i : Nat) (l : List Upd) (w : World) (hs : SlAt Upd.cells 4 w ao l) (hl : l.length = n) (hnc : n ≤ c) (hc : (c : Int) ≤ 9223372036854775807) (hin : i ≤ n) (hno : ao = none → c = 0) :
    (∀ w, (Instr.slice 24 (.slice ao n c) none (some (.int .i64 (i : Int))) none).run Try.prog w = .ok (.slice ao i c) w) ∧ SlU w (.slice ao i c) (l.take i) := by
  refine ⟨fun w => ?_, ?_⟩
  · rw [run_slice_h w 24 ao n c underU .i64 i (by omega) (by omega)]
    rw [sizeElemU]
    have e : ao.map (·.add 0) = ao := by cases ao <;> simp [Addr.add]
    simp [Result.andThen, sliced, e]
  · have hlen : (l.take i).length = i := by rw [List.length_take]; omega
    exact ⟨ao, c, by rw [hlen], hs.cut i, by rw [hlen]; omega, hc, hno⟩
theorem part_high (ao : Option Addr) (n c k : Nat) (l : List Upd) (w : World) (hs : SlAt Upd.cells 4 w ao l) (hl : l.length = n) (hnc : n ≤ c) (hc : (c : Int) ≤ 9223372036854775807) (hkn : k ≤ n) (hno : ao = none → c = 0) :
    ∃ A, (∀ w, (Instr.slice 24 (.slice ao n c) (some (.int .i64 (k : Int))) none none).run Try.prog w = .ok (.slice A (n - k) (c - k)) w) ∧ SlU w (.slice A (n - k) (c - k)) (l.drop k) := by
  obtain ⟨A, -, h2⟩ := part_mid ao n c k n l w hs hl hnc hc hkn (Nat.le_refl _) hno
  have e : (l.drop k).take (n - k) = l.drop k := List.take_of_length_le (by rw [List.length_drop]; omega)
  rw [e] at h2
  refine ⟨if c = k then ao else ao.map (·.add (k * 4)), fun w => ?_, ?_⟩
  · rw [run_slice_l w 24 ao n c underU .i64 k (by omega) (by omega)]
    rw [sizeElemU]; rfl
  · have hlen : (l.drop k).length = n - k := by rw [List.length_drop]; omega
    refine ⟨_, c - k, by rw [hlen], ?_, by rw [hlen]; omega, by omega, fun e => ?_⟩
    · by_cases h0 : k < n
      · rw [if_neg (by omega)]
        obtain ⟨b, off, rfl, hb, hcc⟩ := hs.at (by omega)
        rw [show (some (⟨b, off, none⟩ : Addr)).map (·.add (k * 4)) = some ⟨b, off + k * 4, none⟩ by simp [Addr.add]]
        exact hs.drop k b off rfl
      · exact Or.inl (List.eq_nil_of_length_eq_zero (by omega))
    · by_cases h0 : c = k
      · omega
      · rw [if_neg h0] at e
        cases ao with
        | none => have := hno rfl; omega
        | some a => simp at e

theorem concat_len (cb : Nat) (a1 a2 : Option Addr) (n1 n2 c1 c2 : Nat) (l1 l2 : List Upd) (w : World) (hcb : cb < w.heap.size) (h1 : w.cell? ⟨cb, 0, none⟩ = some (.slice a1 n1 c1)) (h2 : w.cell? ⟨cb, 1, none⟩ = some (.slice a2 n2 c2))
    (s1 : SlU w (.slice a1 n1 c1) l1) (s2 : SlU w (.slice a2 n2 c2) l2) (hl1 : l1.length ≤ 100000) (hl2 : l2.length ≤ 100000) :
    Calls Try.prog 50 #[.slice (some ⟨cb, 0, none⟩) 2 2] w fun e w' => (∃ v', e = .returned v' ∧ w'.ownsRow w.heap.size 31 4 v' (l1 ++ l2).length (cellsU (l1 ++ l2))) ∧ Below w.heap.size w w' := by
  obtain ⟨b1, d1, e1, t1, u1, -, m1⟩ := s1
  obtain ⟨b2, d2, e2, t2, u2, -, m2⟩ := s2
  simp only [Value.slice.injEq] at e1 e2
  obtain ⟨rfl, rfl, rfl⟩ := e1
  obtain ⟨rfl, rfl, rfl⟩ := e2
  exact concat_two cb a1 a2 c1 c2 l1 l2 w hcb h1 h2 t1 t2 (fun e => by have := m1 e; omega) (fun e => by have := m2 e; omega) hl1 hl2

theorem two_boxes {w5 : World} {z B3 B5 n3 n5 : Nat} {v3 v5 : Value} {l3 l5 : List Upd} (h3 : w5.ownsRow B3 31 4 v3 n3 (cellsU l3)) (h5 : w5.ownsRow B5 31 4 v5 n5 (cellsU l5)) (hz3 : z + 1 + 1 < B3) (hz5 : z + 1 + 1 < B5) (u u' : Value) :
    BoxU ((w5.setCell ⟨z + 1, 0, none⟩ u).setCell ⟨z + 1 + 1, 0, none⟩ u') (.agg #[v3]) l3 ∧ BoxU ((w5.setCell ⟨z + 1, 0, none⟩ u).setCell ⟨z + 1 + 1, 0, none⟩ u') (.agg #[v5]) l5 := by
  have a3 : v3.ownBlock ≠ some (z + 1) := fun e => by have := (h3.lt _ e).1; omega
  have b3 : v3.ownBlock ≠ some (z + 1 + 1) := fun e => by have := (h3.lt _ e).1; omega
  have a5 : v5.ownBlock ≠ some (z + 1) := fun e => by have := (h5.lt _ e).1; omega
  have b5 : v5.ownBlock ≠ some (z + 1 + 1) := fun e => by have := (h5.lt _ e).1; omega
  exact ⟨BoxU.of_own (ownsRow_setCell_other (a := ⟨z + 1 + 1, 0, none⟩) (ownsRow_setCell_other (a := ⟨z + 1, 0, none⟩) h3 a3 u) b3 u'), BoxU.of_own (ownsRow_setCell_other (a := ⟨z + 1 + 1, 0, none⟩) (ownsRow_setCell_other (a := ⟨z + 1, 0, none⟩) h5 a5 u) b5 u')⟩

/-- Where the cut ends. -/
def cutEnd (l : List Upd) (low high : List UInt8) : Nat := max (below Upd.key l low) (if high = [] then l.length else below Upd.key l high)
theorem cutEnd_le (l : List Upd) (low high : List UInt8) : below Upd.key l low ≤ cutEnd l low high ∧ cutEnd l low high ≤ l.length := by
  have h1 := below_le (key := Upd.key) l low
  have h2 := below_le (key := Upd.key) l high
  unfold cutEnd
  split <;> omega
/-- Those within, and all others. -/
def cutIn (l : List Upd) (low high : List UInt8) : List Upd := (l.drop (below Upd.key l low)).take (cutEnd l low high - below Upd.key l low)
def cutOut (l : List Upd) (low high : List UInt8) : List Upd := l.take (below Upd.key l low) ++ l.drop (cutEnd l low high)

set_option maxRecDepth 100000 in
set_option maxHeartbeats 4000000 in
theorem cut_all (v : Value) (l : List Upd) (low : List UInt8) (w : World) (hv : BoxU w v l) (hl : l.length ≤ 100000) (hr : Rising Upd.key l) :
    Calls Try.prog 15 #[v, .string (S low), .string (S [])] w fun e w' => (∃ v1 v2, e = .returned (.tuple #[v1, v2]) ∧ BoxU w' v1 (cutIn l low []) ∧ BoxU w' v2 (cutOut l low [])) ∧ Below w.heap.size w w' := by
  have hmax := fun ts t a b w => run_bmax (P := Try.prog) ts t a b w
  have hfind := fun w hv => findU v l low w hv (by omega) hr
  obtain ⟨hce1, hce2⟩ := cutEnd_le l low []
  have hbm : bmax (below Upd.key l low : Nat) (l.length : Nat) = ((cutEnd l low [] : Nat) : Int) := by rw [bmax_nat]; unfold cutEnd; rw [if_pos rfl]
  obtain ⟨s, rfl, hs⟩ := hv
  obtain ⟨ao, c, rfl, hs0, hc1, hc2, hn⟩ := hs
  obtain ⟨A1, hsl1, hp1⟩ := part_mid ao l.length c (below Upd.key l low) (cutEnd l low []) l w hs0 rfl hc1 hc2 hce1 hce2 hn
  obtain ⟨hsl2, hp2⟩ := part_low ao l.length c (below Upd.key l low) l w hs0 rfl hc1 hc2 (by omega) hn
  obtain ⟨A3, hsl3, hp3⟩ := part_high ao l.length c (cutEnd l low []) l w hs0 rfl hc1 hc2 hce2 hn
  have HF := Lib.hid hfind
  have HS := Lib.hid (show SlU w (.slice ao l.length c) l from ⟨ao, c, rfl, hs0, hc1, hc2, hn⟩)
  have HL1 := Lib.hid (show ((l.drop (below Upd.key l low)).take (cutEnd l low [] - below Upd.key l low)).length ≤ 1000000 by rw [List.length_take, List.length_drop]; omega)
  have HL2 := Lib.hid (show (l.take (below Upd.key l low)).length ≤ 100000 by rw [List.length_take]; omega)
  have HL3 := Lib.hid (show (l.drop (cutEnd l low [])).length ≤ 100000 by rw [List.length_drop]; omega)
  have HP1 := Lib.hid hp1
  have HP2 := Lib.hid hp2
  have HP3 := Lib.hid hp3
  have hin : Hid (cutIn l low [] = (l.drop (below Upd.key l low)).take (cutEnd l low [] - below Upd.key l low)) := Lib.hid rfl
  have hout : Hid (cutOut l low [] = l.take (below Upd.key l low) ++ l.drop (cutEnd l low [])) := Lib.hid rfl
  clear hfind hn hs0 hr hp1 hp2 hp3
  generalize hi : below Upd.key l low = i at *
  generalize hK : cutEnd l low [] = K at *
  clear hi hK
  have HE : Hid (l.take i ++ l.drop K = l.take i ++ l.drop K) := Lib.hid rfl
  generalize (l.drop i).take (K - i) = L1 at *
  generalize l.take i = L2 at *
  generalize l.drop K = L3 at *
  clear HE
  go_enter Try.func15, Try.ntmps15
  go_wp2_with fail
  refine (thread (HF.out _ ⟨_, rfl, HS.out.kept (by go_grown) (Nat.le_refl _)⟩) w.heap.size w (by go_grown) (by go_grown)).mono ?_
  rintro e w1 ⟨rfl, hB1, hk1, hf1, hs1, hz1⟩
  have hs1' : w.heap.size + 1 + 1 < w1.heap.size := by simp at hs1; omega
  have p0 := (hk1 w.heap.size 0 (by first | (simp; done) | (simp; omega))).trans (by simp [go_sem]; rfl)
  have p1 := (hk1 (w.heap.size + 1) 0 (by first | (simp; done) | (simp; omega))).trans (by simp [go_sem]; rfl)
  have p2 := (hk1 (w.heap.size + 1 + 1) 0 (by first | (simp; done) | (simp; omega))).trans (by simp [go_sem]; rfl)
  have p3 : w1.frozen? ⟨w.heap.size + 1, 0, none⟩ = false := (hf1 (w.heap.size + 1) 0 (by first | (simp; done) | (simp; omega))).trans (by simp [go_sem])
  have p4 : w1.frozen? ⟨w.heap.size + 1 + 1, 0, none⟩ = false := (hf1 (w.heap.size + 1 + 1) 0 (by first | (simp; done) | (simp; omega))).trans (by simp [go_sem])
  clear hk1 hf1 hs1
  go_wp2_with fail
  go_region_held3 (fun w' => w'.cell? ⟨w.heap.size, 0, none⟩ = some (.slice ao l.length c) ∧ w1.heap.size ≤ w'.heap.size)
  (first | assumption | (constructor <;> (first | assumption | exact k0 _ | exact k1 _ _ | (go_keep; done) | (simp; done) | (simp; omega))))
  (first
    | (go_at_call 46; with_reducible show Calls _ _ _ (World.drew w1) _; go_must (obtain ⟨x0, x1⟩ := ‹_ ∧ _›; refine (thread (cloneU _ _ _ (HP1.out.kept (by go_grown) (Nat.le_refl _)) HL1.out) w.heap.size w (by go_grown) (by go_grown)).mono ?_; rintro e w3 ⟨⟨v3, rfl, hown3⟩, hB3, hk3, hf3, hs3, hz3⟩; obtain ⟨a3, c3, e3⟩ := own_form hown3; subst e3; have y0 := (hk3 w.heap.size 0 (by first | omega | (simp at *; omega))).trans x0; have y1 := (hk3 (w.heap.size + 1) 0 (by first | omega | (simp at *; omega))).trans (cell_drew p1); have y2 := (hk3 (w.heap.size + 1 + 1) 0 (by first | omega | (simp at *; omega))).trans (cell_drew p2); have y3 := (hf3 (w.heap.size + 1) 0 (by first | omega | (simp at *; omega))).trans (frozen_drew p3); have y4 := (hf3 (w.heap.size + 1 + 1) 0 (by first | omega | (simp at *; omega))).trans (frozen_drew p4); have y5 := Nat.le_trans x1 hs3))
    | (go_at_call 46; with_reducible show Calls _ _ _ (World.drew (World.alloc w1 _)) _; go_must (obtain ⟨x0, x1⟩ := ‹_ ∧ _›; refine (thread (cloneU _ _ _ (HP1.out.kept (by go_grown) (Nat.le_refl _)) HL1.out) w.heap.size w (by go_grown) (by go_grown)).mono ?_; rintro e w3 ⟨⟨v3, rfl, hown3⟩, hB3, hk3, hf3, hs3, hz3⟩; obtain ⟨a3, c3, e3⟩ := own_form hown3; subst e3; have y0 := (hk3 w.heap.size 0 (by first | omega | (simp at *; omega))).trans x0; have y1 := (hk3 (w.heap.size + 1) 0 (by first | omega | (simp at *; omega))).trans (cell_drew (cell_past _ p1)); have y2 := (hk3 (w.heap.size + 1 + 1) 0 (by first | omega | (simp at *; omega))).trans (cell_drew (cell_past _ p2)); have y3 := (hf3 (w.heap.size + 1) 0 (by first | omega | (simp at *; omega))).trans (frozen_drew ((World.frozen?_alloc_old _ _ _ (by show w.heap.size + 1 ≠ _; omega)).trans p3)); have y4 := (hf3 (w.heap.size + 1 + 1) 0 (by first | omega | (simp at *; omega))).trans (frozen_drew ((World.frozen?_alloc_old _ _ _ (by show w.heap.size + 1 + 1 ≠ _; omega)).trans p4)); have y5 := Nat.le_trans x1 hs3; have m0 := (hk3 w1.heap.size 0 (by simp)).trans (cell_drew (show _ = some (.slice ao i c) by simp)); have m1 := (hk3 w1.heap.size 1 (by simp)).trans (cell_drew (show _ = some (.slice A3 (l.length - K) (c - K)) by simp)); have mlt : w1.heap.size < w3.heap.size := Nat.lt_of_lt_of_le (by simp) hs3))
    | (go_at_call 50; with_reducible show Calls _ _ _ (World.alloc _ _) _; refine (concat_len w3.heap.size ao A3 i (l.length - K) c (c - K) _ _ _ (by simp) (by simp) (by simp) (HP2.out.kept (by go_grown) (Nat.le_refl _)) (HP3.out.kept (by go_grown) (Nat.le_refl _)) HL2.out HL3.out).mono ?_; rintro e w5 ⟨⟨v5, rfl, hown5⟩, hb5⟩; obtain ⟨a5, c5, e5⟩ := own_form hown5; subst e5; have hown3' := own_below (hown3.alloc _) hb5; have hB5 := (hB3.alloc hz3 _).trans (below_same hb5 (by simp; omega)); have z0 := ((bcell hb5).1 w.heap.size 0 (by simp; omega)).trans (cell_past _ y0); have z1 := ((bcell hb5).1 (w.heap.size + 1) 0 (by simp; omega)).trans (cell_past _ y1); have z2 := ((bcell hb5).1 (w.heap.size + 1 + 1) 0 (by simp; omega)).trans (cell_past _ y2); have z3 := ((bcell hb5).2 (w.heap.size + 1) 0 (by simp; omega)).trans ((World.frozen?_alloc_old _ _ _ (by show w.heap.size + 1 ≠ _; omega)).trans y3); have z4 := ((bcell hb5).2 (w.heap.size + 1 + 1) 0 (by simp; omega)).trans ((World.frozen?_alloc_old _ _ _ (by show w.heap.size + 1 + 1 ≠ _; omega)).trans y4); have z5 : w1.heap.size ≤ w5.heap.size := Nat.le_trans (by simp; omega) hb5.size; have k0 : ∀ u, (w5.setCell ⟨w.heap.size + 1, 0, none⟩ u).cell? ⟨w.heap.size, 0, none⟩ = some (.slice ao l.length c) := fun u => far_block (by omega) z0; have k1 : ∀ u u', ((w5.setCell ⟨w.heap.size + 1, 0, none⟩ u).setCell ⟨w.heap.size + 1 + 1, 0, none⟩ u').cell? ⟨w.heap.size, 0, none⟩ = some (.slice ao l.length c) := fun u u' => far_block (by omega) (k0 u))
    | (go_at_call 50; refine (concat_len w1.heap.size ao A3 i (l.length - K) c (c - K) _ _ _ mlt m0 m1 (HP2.out.kept (by go_grown) (Nat.le_refl _)) (HP3.out.kept (by go_grown) (Nat.le_refl _)) HL2.out HL3.out).mono ?_; rintro e w5 ⟨⟨v5, rfl, hown5⟩, hb5⟩; obtain ⟨a5, c5, e5⟩ := own_form hown5; subst e5; have hown3' := own_below hown3 hb5; have hB5 := hB3.trans (below_same hb5 hz3); have z0 := ((bcell hb5).1 w.heap.size 0 (by omega)).trans y0; have z1 := ((bcell hb5).1 (w.heap.size + 1) 0 (by omega)).trans y1; have z2 := ((bcell hb5).1 (w.heap.size + 1 + 1) 0 (by omega)).trans y2; have z3 := ((bcell hb5).2 (w.heap.size + 1) 0 (by omega)).trans y3; have z4 := ((bcell hb5).2 (w.heap.size + 1 + 1) 0 (by omega)).trans y4; have z5 : w1.heap.size ≤ w5.heap.size := Nat.le_trans (by omega) hb5.size; have k0 : ∀ u, (w5.setCell ⟨w.heap.size + 1, 0, none⟩ u).cell? ⟨w.heap.size, 0, none⟩ = some (.slice ao l.length c) := fun u => far_block (by omega) z0; have k1 : ∀ u u', ((w5.setCell ⟨w.heap.size + 1, 0, none⟩ u).setCell ⟨w.heap.size + 1 + 1, 0, none⟩ u').cell? ⟨w.heap.size, 0, none⟩ = some (.slice ao l.length c) := fun u u' => far_block (by omega) (k0 u)))
  all_goals (
    have hown5' := hown5
    simp only [List.length_append] at hown5'
    have hbx := two_boxes (z := w.heap.size) hown3' hown5' (by first | (simp; omega) | (simp at *; omega)) (by first | omega | (simp; omega)) (.slice a3 L1.length c3) (.slice a5 (L2.length + L3.length) c5)
    have hbl := (hB5.setCell (p := ⟨w.heap.size + 1, 0, none⟩) (by show w.heap.size ≤ w.heap.size + 1; omega) (.slice a3 L1.length c3)).setCell (p := ⟨w.heap.size + 1 + 1, 0, none⟩) (by show w.heap.size ≤ w.heap.size + 1 + 1; omega) (.slice a5 (L2.length + L3.length) c5)
    have HX := Lib.hid hbx
    have HY := Lib.hid hbl
    clear hbx hbl hown3 hown3' hown5 hown5' hB3 hB5 hsl1 hsl2 hsl3 HS HF hmax hbm x0 x1 hk3 hf3 hs3 hz3
    have e1 : ((w5.setCell ⟨w.heap.size + 1, 0, none⟩ (.slice a3 L1.length c3)).setCell ⟨w.heap.size + 1 + 1, 0, none⟩ (.slice a5 (L2.length + L3.length) c5)).cell? ⟨w.heap.size + 1, 0, none⟩ = some (.slice a3 L1.length c3) := far_block (by omega) (World.cell?_setCell_same' _ _ _ (by rw [z1]; rfl))
    have e2 : ((w5.setCell ⟨w.heap.size + 1, 0, none⟩ (.slice a3 L1.length c3)).setCell ⟨w.heap.size + 1 + 1, 0, none⟩ (.slice a5 (L2.length + L3.length) c5)).cell? ⟨w.heap.size + 1 + 1, 0, none⟩ = some (.slice a5 (L2.length + L3.length) c5) := World.cell?_setCell_same' _ _ _ (by rw [far_block (by omega) z2]; rfl)
    generalize (w5.setCell ⟨w.heap.size + 1, 0, none⟩ (.slice a3 L1.length c3)).setCell ⟨w.heap.size + 1 + 1, 0, none⟩ (.slice a5 (L2.length + L3.length) c5) = wf at *
    clear z0 z1 z2 z3 z4 z5 k0 k1
    go_wp2_with fail
    exact bodyPost_ret (v := .tuple #[.agg #[.slice a3 L1.length c3], .agg #[.slice a5 (L2.length + L3.length) c5]]) (by simp [results, Try.results15, go_sem, e1, e2]) rfl ⟨⟨_, _, rfl, by rw [hin.out]; exact HX.out.1, by rw [hout.out]; exact HX.out.2⟩, HY.out⟩)

end Go.Proofs.Ytcjeonamebnpfaa
