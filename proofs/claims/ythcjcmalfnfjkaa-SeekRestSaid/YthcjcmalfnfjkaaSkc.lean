/-
  The walks of New, After and fill.
-/
import Derived.Test.YthcjcmalfnfjkaaSkb
import Derived.Deep.RegionLawGrows
import Derived.StillTailTactics
namespace Go.Proofs.Ythcjcmalfnfjkaa
open Go.RowKit
set_option linter.unusedVariables false
attribute [local go_sem ↓] Go.wp_at_zero Go.wp_at_succ

theorem after_any (k : List UInt8) (hk : k.length ≤ 1000000) (w : World) : Calls Try.prog 42 #[.string (S k)] w fun e w' => e = .returned (.string (S (k ++ [0]))) ∧ w = w' := by
  have h := S_append k [0]
  go_enter Try.func42, Try.ntmps42
  go_wp2_with fail
  go_ret
  exact ⟨ret_val (congrArg Value.string h), rfl⟩
def curCells (q : Nat) (lo hi : List UInt8) (n : Nat) : Array Value := #[.iface 63 (.pointer (some ⟨q, 0, none⟩)), .string (S lo), .string (S hi), .int .i64 n, .slice none 0 0, .bool false]
theorem new_nil (lo hi : ByteArray) (n : Int) (w : World) : Calls Try.prog 26 #[.nilIface, .string lo, .string hi, .int .i64 n] w fun e w' => e = .returned (.tuple #[.pointer none, .int .i64 1]) ∧ w = w' := by
  go_enter Try.func26, Try.ntmps26
  go_wp2_with fail
  go_ret2
  exact ⟨rfl, rfl⟩
theorem new_arg (q : Nat) (lo hi : ByteArray) (n : Int) (w : World) (h : ¬ (1 ≤ n ∧ n ≤ 4096)) : Calls Try.prog 26 #[.iface 63 (.pointer (some ⟨q, 0, none⟩)), .string lo, .string hi, .int .i64 n] w fun e w' => e = .returned (.tuple #[.pointer none, .int .i64 2]) ∧ w = w' := by
  by_cases h1 : n < 1
  · go_enter Try.func26, Try.ntmps26
    go_wp2_with fail
    go_ret2
    exact ⟨rfl, rfl⟩
  · have h2 : 4096 < n := by omega
    go_enter Try.func26, Try.ntmps26
    go_wp2_with fail
    go_ret2
    exact ⟨rfl, rfl⟩
theorem new_ok (q : Nat) (lo hi : List UInt8) (n : Nat) (w : World) (h1 : 1 ≤ n) (h2 : n ≤ 4096) : Calls Try.prog 26 #[.iface 63 (.pointer (some ⟨q, 0, none⟩)), .string (S lo), .string (S hi), .int .i64 n] w fun e w' => e = .returned (.tuple #[.pointer (some ⟨w.heap.size, 0, none⟩), .int .i64 0]) ∧ w' = w.alloc (.cells (curCells q lo hi n) 105) := by
  have h1' : ¬ (n : Int) < 1 := by omega
  have h2' : ¬ (4096 : Int) < (n : Int) := by omega
  go_enter Try.func26, Try.ntmps26
  go_wp2_with fail
  go_ret2
  exact ⟨rfl, rfl⟩

theorem fill_some (p : Nat) (a : Option Addr) (n c : Nat) (w : World) (h4 : w.cell? ⟨p, 4, none⟩ = some (.slice a n c)) (hn : 0 < n) : Calls Try.prog 43 #[.pointer (some ⟨p, 0, none⟩)] w fun e w' => e = .returned (.int .i64 0) ∧ w = w' := by
  have hn' : (0 : Int) < (n : Int) := by omega
  go_enter Try.func43, Try.ntmps43
  go_wp2_with fail
  go_ret
  exact ⟨rfl, rfl⟩
theorem fill_over (p : Nat) (a : Option Addr) (c : Nat) (w : World) (h4 : w.cell? ⟨p, 4, none⟩ = some (.slice a 0 c)) (h5 : w.cell? ⟨p, 5, none⟩ = some (.bool true)) : Calls Try.prog 43 #[.pointer (some ⟨p, 0, none⟩)] w fun e w' => e = .returned (.int .i64 0) ∧ w = w' := by
  go_enter Try.func43, Try.ntmps43
  go_wp2_with fail
  go_ret
  exact ⟨rfl, rfl⟩
theorem LeftAt.keep {w w' : World} {B1 : Nat} {v : Value} {l : List Ent} (h : LeftAt w B1 v l) (hk : ∀ b cur, B1 ≤ b → RowIs w 55 b cur → w'.heap[b]? = w.heap[b]?) : LeftAt w' B1 v l := by
  obtain ⟨ao, c, rfl, h1, h2, h3⟩ := h
  refine ⟨ao, c, rfl, h1, h2, ?_⟩
  rcases h3 with h3 | ⟨b, off, cur, rfl, h4, h5, h6⟩
  · exact Or.inl h3
  · exact Or.inr ⟨b, off, cur, rfl, h4, (hk b cur h4 h5).trans h5, h6⟩
theorem LeftAt.on {w w' : World} {B1 : Nat} {v : Value} {l : List Ent} (h : LeftAt w B1 v l) (hb : Below w.heap.size w w') : LeftAt w' B1 v l := h.keep fun b _ _ hr => hb.block b hr.lt
theorem LeftAt.setCell {w : World} {B1 : Nat} {v : Value} {l : List Ent} (h : LeftAt w B1 v l) {p o : Nat} (hp : p < B1) (u : Value) : LeftAt (w.setCell ⟨p, o, none⟩ u) B1 v l := h.keep fun b _ hb _ => Below.heap_setCell _ _ _ _ (by show b ≠ p; omega)
theorem LeftAt.of_own {w : World} {B1 n c : Nat} {a : Option Addr} {l : List Ent} (h : w.ownsRow B1 55 2 (.slice a n c) n (cellsE l)) : LeftAt w B1 (.slice a n c) l := by
  have hn : l.length = n := by have := h.1; rw [cellsE_len] at this; omega
  subst hn
  rcases ownsRow_open h with ⟨e, h0, -⟩ | ⟨g, cap, cur, e, h1, hr, h3, h4, h5, h6⟩
  · simp only [Value.slice.injEq] at e
    obtain ⟨rfl, h0', rfl⟩ := e
    exact ⟨none, 0, rfl, by omega, by omega, Or.inl (List.length_eq_zero_iff.1 h0')⟩
  · simp only [Value.slice.injEq] at e
    obtain ⟨rfl, -, rfl⟩ := e
    refine ⟨_, _, rfl, h3, by unfold maxLen at h4; omega, Or.inr ⟨g, 0, cur, rfl, h1, hr, fun i hi j x hx => ?_⟩⟩
    have := cellsE_get l i hi j x hx
    rw [← h6] at this
    rw [Nat.zero_add]
    rw [List.getElem?_take] at this
    split at this
    · exact this
    · exact absurd this (by simp)
/-- What the cursor has left lies in another block. -/
def NotAt (w : World) (p z : Nat) : Prop := ∀ a n c, w.cell? ⟨p, 4, none⟩ = some (.slice a n c) → 0 < n → ∀ ad, a = some ad → ad.block ≠ z
theorem ShAt.setAt {w : World} {B0 B1 q : Nat} {va : Value} {L : List Ent} {A : List Int} {fail : Int} (h : ShAt w B0 B1 q va L A fail) {z o : Nat} (hp0 : B0 ≤ z) (hne : z ≠ q) (hv : va.ownBlock ≠ some z) (u : Value) : ShAt (w.setCell ⟨z, o, none⟩ u) B0 B1 q va L A fail := by
  obtain ⟨aL, cL, h0, hr⟩ := h.c0
  refine ⟨⟨aL, cL, ?_, ?_⟩, ?_, ?_, ?_, ?_, ?_, h.lt, h.le⟩
  · rw [World.cell?_setCell_other _ _ _ _ (addr_ne (Or.inl hne))]; exact h0
  · rcases hr with hr | ⟨b, off, rfl, h1, h2, h3⟩
    · exact Or.inl hr
    · refine Or.inr ⟨b, off, rfl, h1, h2, fun i hi j x hx => ?_⟩
      rw [World.cell?_setCell_other _ _ _ _ (addr_ne (Or.inl (by omega)))]
      exact h3 i hi j x hx
  · rw [World.cell?_setCell_other _ _ _ _ (addr_ne (Or.inl hne))]; exact h.c1
  · rw [World.cell?_setCell_other _ _ _ _ (addr_ne (Or.inl hne))]; exact h.c2
  · rw [World.frozen?_setCell]; exact h.f1
  · rw [World.frozen?_setCell]; exact h.f2
  · exact ownsRow_setCell_other (a := ⟨z, o, none⟩) h.own hv _
theorem ShAt.setCell {w : World} {B0 B1 q : Nat} {va : Value} {L : List Ent} {A : List Int} {fail : Int} (h : ShAt w B0 B1 q va L A fail) {p o : Nat} (hp : p < B1) (hp0 : B0 ≤ p) (hne : p ≠ q) (u : Value) : ShAt (w.setCell ⟨p, o, none⟩ u) B0 B1 q va L A fail := by
  obtain ⟨aL, cL, h0, hr⟩ := h.c0
  refine ⟨⟨aL, cL, ?_, ?_⟩, ?_, ?_, ?_, ?_, ?_, h.lt, h.le⟩
  · rw [World.cell?_setCell_other _ _ _ _ (addr_ne (Or.inl hne))]; exact h0
  · rcases hr with hr | ⟨b, off, rfl, h1, h2, h3⟩
    · exact Or.inl hr
    · refine Or.inr ⟨b, off, rfl, h1, h2, fun i hi j x hx => ?_⟩
      rw [World.cell?_setCell_other _ _ _ _ (addr_ne (Or.inl (by omega)))]
      exact h3 i hi j x hx
  · rw [World.cell?_setCell_other _ _ _ _ (addr_ne (Or.inl hne))]; exact h.c1
  · rw [World.cell?_setCell_other _ _ _ _ (addr_ne (Or.inl hne))]; exact h.c2
  · rw [World.frozen?_setCell]; exact h.f1
  · rw [World.frozen?_setCell]; exact h.f2
  · exact ownsRow_setCell_other (a := ⟨p, o, none⟩) h.own (fun e => by have := (h.own.lt p e).1; omega) _
theorem Chg.weak {p q : Nat} {va : Value} {w w' : World} (h : Chg q q va w w') : Chg p q va w w' := ⟨h.os, h.tape, h.output, h.size, fun k hk _ h2 h3 => h.block k hk h2 h2 h3⟩
theorem Chg.setCell {p q o : Nat} {va : Value} {w w' : World} (h : Chg p q va w w') (u : Value) : Chg p q va w (w'.setCell ⟨p, o, none⟩ u) :=
  ⟨h.os, h.tape, h.output, by rw [World.size_setCell]; exact h.size, fun k hk h1 h2 h3 => (Below.heap_setCell _ _ _ _ h1).trans (h.block k hk h1 h2 h3)⟩
/-- The cursor has a new chunk. -/
theorem CuAt.filled {w w4 : World} {B0 B1 p q : Nat} {C : CurS} (hc : CuAt w B0 B1 p q C) (hk : w4.heap[p]? = w.heap[p]?) {a : Option Addr} {n c : Nat} {l : List Ent} (hv : LeftAt w4 B1 (.slice a n c) l) (b : Bool) : CuAt ((w4.setCell ⟨p, 4, none⟩ (.slice a n c)).setCell ⟨p, 5, none⟩ (.bool b)) B0 B1 p q { C with left := l, over := b } := by
  have hcell : ∀ o v, w.cell? ⟨p, o, none⟩ = some v → w4.cell? ⟨p, o, none⟩ = some v := fun o v h => (World.cell?_of_block hk).trans h
  have hfz : ∀ o, w4.frozen? ⟨p, o, none⟩ = w.frozen? ⟨p, o, none⟩ := fun o => World.frozen?_of_block hk
  obtain ⟨v4, h4, -⟩ := hc.c4
  have z4 := hcell 4 _ h4
  have z5 := hcell 5 _ hc.c5
  have oth : ∀ o, o ≠ 4 → o ≠ 5 → ((w4.setCell ⟨p, 4, none⟩ (.slice a n c)).setCell ⟨p, 5, none⟩ (.bool b)).cell? ⟨p, o, none⟩ = w4.cell? ⟨p, o, none⟩ := fun o h4 h5 => by
    rw [World.cell?_setCell_other _ _ _ _ (addr_ne (Or.inr (Ne.symm h5))), World.cell?_setCell_other _ _ _ _ (addr_ne (Or.inr (Ne.symm h4)))]
  refine ⟨(oth 0 (by decide) (by decide)).trans (hcell _ _ hc.c0), (oth 1 (by decide) (by decide)).trans (hcell _ _ hc.c1), (oth 2 (by decide) (by decide)).trans (hcell _ _ hc.c2), (oth 3 (by decide) (by decide)).trans (hcell _ _ hc.c3), ⟨.slice a n c, ?_, (hv.setCell hc.lt _).setCell hc.lt _⟩, ?_, ?_, ?_, ?_, hc.lt, hc.ne, hc.ge⟩
  · rw [World.cell?_setCell_other _ _ _ _ (addr_ne (Or.inr (by decide)))]; exact World.cell?_setCell_same _ _ _ z4
  · exact World.cell?_setCell_same _ _ _ ((World.cell?_setCell_other _ _ _ _ (addr_ne (Or.inr (by decide)))).trans z5)
  · rw [World.frozen?_setCell, World.frozen?_setCell, hfz]; exact hc.f1
  · rw [World.frozen?_setCell, World.frozen?_setCell, hfz]; exact hc.f4
  · rw [World.frozen?_setCell, World.frozen?_setCell, hfz]; exact hc.f5
theorem nil_scan (k : Nat) (a : Addr) (w : World) : (nilAhead (k + 1) 63 (.pointer (some a)) "Scan").run Try.prog w = .ok (some false) w := by kernel_rfl
theorem by_Scan (k : Nat) (a : Addr) (w : World) : (method (k + 1) 63 (.pointer (some a)) "Scan").run Try.prog w = .ok (102, .pointer (some a)) w := by kernel_rfl

set_option maxRecDepth 100000 in
set_option maxHeartbeats 4000000 in
theorem fill_bad (B0 B1 p q : Nat) (va : Value) (L : List Ent) (A : List Int) (fail : Int) (C : CurS) (w : World) (hc : CuAt w B0 B1 p q C) (h : ShAt w B0 B1 q va L A fail) (hf : fail = (A.length : Int) + 1) (hl : C.left = []) (ho : C.over = false) (hA : A.length ≤ 1000000) (hB : B1 ≤ w.heap.size) :
    Calls Try.prog 43 #[.pointer (some ⟨p, 0, none⟩)] w fun e w' => e = .returned (.int .i64 10) ∧ ∃ va', ShAt w' B0 B1 q va' L (A ++ [(C.chunk : Int)]) fail ∧ Chg q q va w w' ∧ (va'.ownBlock = va.ownBlock ∨ va'.ownBlock = some (w.heap.size + 1)) := by
  have c0 := hc.c0
  have c1 := hc.c1
  have c2 := hc.c2
  have c3 := hc.c3
  obtain ⟨v4, c4, hv⟩ := hc.c4
  obtain ⟨ao, cc, rfl, -⟩ := hv
  rw [hl] at c4
  have c5 := hc.c5
  rw [ho] at c5
  have HSC := Lib.hid (fun W hW hZ => scan_bad B0 B1 q va L A fail C.place C.high (C.chunk : Int) W hW hf hA hZ)
  have HS := Lib.hid h
  have hnl := fun k a w => nil_scan k a w
  have hby := fun k a w => by_Scan k a w
  have hqp : some p ≠ va.ownBlock := fun e => by have := (h.own.lt p e.symm).1; have := hc.lt; omega
  have HCH := Lib.hid (fun (o : Nat) (v : Value) (w3 : World) (hch : Chg q q va w.drew w3) (hcell : w.cell? ⟨p, o, none⟩ = some v) => hch.cell (w := w.drew) hcell hc.ne hc.ne (fun e => hqp e.symm))
  clear h hf hl ho
  go_enter Try.func43, Try.ntmps43
  go_wp2_with fail
  go_region_held3 (fun w' => w'.cell? ⟨p, 0, none⟩ = some (.iface 63 (.pointer (some ⟨q, 0, none⟩))) ∧ w'.cell? ⟨p, 1, none⟩ = some (.string (S C.place)) ∧ w'.cell? ⟨p, 2, none⟩ = some (.string (S C.high)) ∧ w'.cell? ⟨p, 3, none⟩ = some (.int .i64 C.chunk))
    (first | assumption | exact ⟨c0, c1, c2, c3⟩ | exact ⟨k0, k1, k2, k3⟩)
    (first
      | (go_at_call 102; go_must (refine (HSC.out _ (HS.out.on (below_drew' (Below.refl _ _))) (by simpa using hB)).mono ?_; rintro e w3 ⟨va', rfl, hsa, hch, hvb⟩; have k0 := HCH.out _ _ _ hch c0; have k1 := HCH.out _ _ _ hch c1; have k2 := HCH.out _ _ _ hch c2; have k3 := HCH.out _ _ _ hch c3)))
  go_wp2_with fail
  go_ret
  exact ⟨rfl, va', hsa, ⟨hch.os, hch.tape, hch.output, hch.size, hch.block⟩, hvb⟩

set_option maxRecDepth 100000 in
set_option maxHeartbeats 4000000 in
theorem fill_ok (B0 B1 p q : Nat) (va : Value) (L : List Ent) (A : List Int) (fail : Int) (C : CurS) (w : World) (hc : CuAt w B0 B1 p q C) (h : ShAt w B0 B1 q va L A fail) (hf : fail ≠ (A.length : Int) + 1) (hl : C.left = []) (ho : C.over = false) (hA : A.length ≤ 1000000) (hL : L.length ≤ 1000) (hB : B1 ≤ w.heap.size) (l : List Ent) (he : scanL L C.place C.high (C.chunk : Int) = l) (b : Bool) (hb : decide (l.length < C.chunk) = b) :
    Calls Try.prog 43 #[.pointer (some ⟨p, 0, none⟩)] w fun e w' => e = .returned (.int .i64 0) ∧ ∃ va', CuAt w' B0 B1 p q { C with left := l, over := b } ∧ ShAt w' B0 B1 q va' L (A ++ [(C.chunk : Int)]) fail ∧ Chg p q va w w' ∧ (va'.ownBlock = va.ownBlock ∨ va'.ownBlock = some (w.heap.size + 1)) ∧ ∀ z, z < w.heap.size → NotAt w' p z := by
  have c0 := hc.c0
  have c1 := hc.c1
  have c2 := hc.c2
  have c3 := hc.c3
  have f4 := hc.f4
  have f5 := hc.f5
  obtain ⟨v4, c4, hv⟩ := hc.c4
  obtain ⟨ao, cc, rfl, -⟩ := hv
  rw [hl] at c4
  have c5 := hc.c5
  rw [ho] at c5
  have hll : l.length ≤ 1000 := by rw [← he]; have := scan_len L C.place C.high (C.chunk : Int); omega
  have HSC := Lib.hid (fun W hW hZ => scan_ok B0 B1 q va L A fail C.place C.high (C.chunk : Int) W hW hf hA hL hZ)
  unfold ScanOk at HSC
  rw [he] at HSC
  have HS := Lib.hid h
  have HC := Lib.hid hc
  have hnl := fun k a w => nil_scan k a w
  have hby := fun k a w => by_Scan k a w
  have hqp : some p ≠ va.ownBlock := fun e => by have := (h.own.lt p e.symm).1; have := hc.lt; omega
  have HCH := Lib.hid (fun (o : Nat) (v : Value) (w3 : World) (hch : Chg q q va w.drew w3) (hcell : w.cell? ⟨p, o, none⟩ = some v) => hch.cell (w := w.drew) hcell hc.ne hc.ne (fun e => hqp e.symm))
  have HCB := Lib.hid (fun (w3 : World) (hch : Chg q q va w.drew w3) => hch.block p (World.block_lt_of_cell? w _ c0) hc.ne hc.ne (fun e => hqp e.symm))
  have HBB := Lib.hid hb
  have HP := Lib.hid (World.block_lt_of_cell? w _ c0)
  have hlt := hc.lt
  clear h hf hl ho hc he hb
  go_enter Try.func43, Try.ntmps43
  go_wp2_with fail
  go_region_held3 (fun w' => w'.cell? ⟨p, 0, none⟩ = some (.iface 63 (.pointer (some ⟨q, 0, none⟩))) ∧ w'.cell? ⟨p, 1, none⟩ = some (.string (S C.place)) ∧ w'.cell? ⟨p, 2, none⟩ = some (.string (S C.high)) ∧ w'.cell? ⟨p, 3, none⟩ = some (.int .i64 C.chunk))
    (first | assumption | exact ⟨c0, c1, c2, c3⟩ | exact ⟨k0, k1, k2, k3⟩)
    (first
      | (go_at_call 102; go_must (refine (HSC.out _ (HS.out.on (below_drew' (Below.refl _ _))) (by simpa using hB)).mono ?_; rintro e w3 ⟨va', a3, c3', rfl, hown3, hsa, hch3, hvb⟩; have k0 := HCH.out _ _ _ hch3 c0; have k1 := HCH.out _ _ _ hch3 c1; have k2 := HCH.out _ _ _ hch3 c2; have k3 := HCH.out _ _ _ hch3 c3)))
  have k4 := HCH.out _ _ _ hch3 c4
  have k5 := HCH.out _ _ _ hch3 c5
  have hblk := HCB.out _ hch3
  have g4 : w3.frozen? ⟨p, 4, none⟩ = false := (World.frozen?_of_block hblk).trans f4
  have g5 : w3.frozen? ⟨p, 5, none⟩ = false := (World.frozen?_of_block hblk).trans f5
  have hp3 : p < w3.heap.size := World.block_lt_of_cell? w3 _ k0
  have HSL := Lib.hid (SlE.of_own hown3).2
  have HSA := Lib.hid hsa
  have HCG := Lib.hid (show Chg p q va w w3 from ⟨hch3.os, hch3.tape, hch3.output, hch3.size, fun k hk _ h2 h3 => hch3.block k hk h2 h2 h3⟩)
  have HVB := Lib.hid (show va'.ownBlock = va.ownBlock ∨ va'.ownBlock = some (w.heap.size + 1) from hvb)
  have HBLK := Lib.hid (show w3.heap[p]? = w.heap[p]? from hblk)
  have hz3 := HCG.out.size
  clear hown3 hsa hch3 hvb hblk c0 c1 c2 c3 c4 c5 f4 f5 HSC HCH HCB
  go_wp2_with fail
  go_region_law (first | (go_simp; go_at_call 53; go_must (refine (cloneE _ l _ (HSL.out.kept (below_drew' (Below.refl _ _)) (Nat.le_refl _)) (by omega)).mono ?_; rintro e w6 ⟨⟨v6, rfl, hown6⟩, hb6⟩; obtain ⟨a6, c6, e6⟩ := own_form hown6; subst e6; have hX6 : Below w3.heap.size w3 w6 := (below_drew' (Below.refl w3.heap.size w3)).trans hb6; have m3 := kept_cell hX6 k3; have m4 := kept_cell hX6 k4; have m5 := kept_cell hX6 k5; have r4 := kept_frozen hX6 k4 g4; have r5 := kept_frozen hX6 k5 g5)))
  all_goals
    go_wp2_with fail
    go_ret
    refine ⟨rfl, va', ?_, ((HSA.out.on hX6).setCell hlt HC.out.ge HC.out.ne _).setCell hlt HC.out.ge HC.out.ne _, ((HCG.out.trans (Chg.of_below (va := va) hX6) (fun i _ e => e)).setCell _).setCell _, HVB.out, fun z hz a n c hcell hn ad had => ?_⟩
    rotate_left
    · rw [World.cell?_setCell_other _ _ _ _ (addr_ne (Or.inr (by decide))), World.cell?_setCell_same _ _ _ m4] at hcell
      simp only [Option.some.injEq, Value.slice.injEq] at hcell
      obtain ⟨rfl, rfl, rfl⟩ := hcell
      obtain ⟨g, eg, hg, -⟩ := own_at hown6 hn
      rw [had] at eg
      injection eg with eg
      have : w3.heap.size ≤ g := hg
      rw [eg]
      show g ≠ z
      omega
    rw [HBB.out]
    exact HC.out.filled ((hX6.block p hp3).trans HBLK.out) (LeftAt.of_own (own_base hown6 (Nat.le_trans hB hz3))) b

end Go.Proofs.Ythcjcmalfnfjkaa
