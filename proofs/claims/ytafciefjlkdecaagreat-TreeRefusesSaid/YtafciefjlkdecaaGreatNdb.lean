/-
  The walks of a node's Right and Text.
-/
import Derived.Test.YtafciefjlkdecaaGreatNda
namespace Go.Proofs.YtafciefjlkdecaaGreat
open Go.RowKit
attribute [local go_sem ↓] Go.wp_at_zero Go.wp_at_succ

theorem textAcc_two (l : List Upd) (hw : ∀ u ∈ l, u.Wf) : ((∀ u ∈ l, Okay u) ∧ textAcc [] l = (textU l, 0)) ∨ ((¬ ∀ u ∈ l, Okay u) ∧ ∃ c : Nat, c ≠ 0 ∧ textAcc [] l = ([], c)) := by
  by_cases h : ∀ u ∈ l, u.check = 0
  · exact Or.inl ⟨fun u hu => ⟨hw u hu, h u hu⟩, by rw [textAcc_ok l [] h]; simp⟩
  · refine Or.inr ⟨fun k => h fun u hu => (k u hu).check, ?_⟩
    have : ∀ (l : List Upd) (acc : List UInt8), (¬ ∀ u ∈ l, u.check = 0) → ∃ c : Nat, c ≠ 0 ∧ textAcc acc l = ([], c) := by
      intro l
      induction l with
      | nil => intro acc h; exact absurd (fun u hu => by simp at hu) h
      | cons u l ih =>
        intro acc h
        by_cases hc : u.check = 0
        · rw [textAcc, if_pos hc]
          exact ih _ (fun k => h fun x hx => by
            rcases List.mem_cons.1 hx with rfl | hx
            · exact hc
            · exact k x hx)
        · exact ⟨u.check, hc, by rw [textAcc, if_neg hc]⟩
    exact this l [] h

/-- What the program's Right tells. -/
structure RightN (cs : List Chd) (us : List Upd) : Prop where
  kids : RightC cs
  len : us.length ≤ 64
  ok : ∀ u ∈ us, Okay u
theorem RightN.node {cs : List Chd} {us : List Upd} (h : RightN cs us) (hr : Rising Upd.key us) : NodeOk cs us := ⟨h.kids, h.len, h.ok, hr⟩
theorem NodeOk.right {cs : List Chd} {us : List Upd} (h : NodeOk cs us) : RightN cs us := ⟨h.kids, h.len, h.ok⟩
/-- What Go's types, and the memory, promise of a node. -/
structure NodeIn (cs : List Chd) (us : List Upd) : Prop where
  lenC : cs.length ≤ 1000
  lenU : us.length ≤ 10000
  wfC : ∀ c ∈ cs, c.Wf
  low : ∀ c ∈ cs, c.low.length ≤ 1000000
  wfU : ∀ u ∈ us, u.Wf

set_option maxRecDepth 100000 in
set_option maxHeartbeats 4000000 in
theorem nodeRight_any (v : Value) (cs : List Chd) (us : List Upd) (w : World) (h : NodeAt w v cs us) (hi : NodeIn cs us) :
    Calls Tryz.prog 117 #[v] w fun e w' => TellsB e (RightN cs us) ∧ Below w.heap.size w w' := by
  have HCH := Lib.hid (fun w' h => children_any v cs us w' h hi.lenC hi.wfC hi.low)
  have HN := Lib.hid h
  obtain ⟨a, b, x, y, rfl, h1, h2⟩ := h
  obtain ⟨ao, c, e, hs, -⟩ := id h2
  simp only [Value.slice.injEq] at e
  obtain ⟨rfl, -, rfl⟩ := e
  have HBT := Lib.hid (fun w' h => bufText_gen b us.length y us w' rfl h hi.lenU hi.wfU)
  have H2 := Lib.hid (textAcc_two us hi.wfU)
  have HS := Lib.hid hs
  clear hs h1 h2
  go_enter Tryz.func117, Tryz.ntmps117
  go_upto_region 1 with (fail)
  have hX : Below w.heap.size w (w.alloc (.cells #[.slice a cs.length x, .slice b us.length y] 105)) := by go_grown
  have HP := Lib.hid (show (w.alloc (.cells #[.slice a cs.length x, .slice b us.length y] 105)).cell? ⟨w.heap.size, 0, none⟩ = some (.slice a cs.length x) ∧ (w.alloc (.cells #[.slice a cs.length x, .slice b us.length y] 105)).cell? ⟨w.heap.size, 1, none⟩ = some (.slice b us.length y) by refine ⟨?_, ?_⟩ <;> (rw [World.cell?_alloc_at _ _ _ _ rfl]; rfl))
  obtain ⟨W, hW⟩ : ∃ W, W = w.alloc (.cells #[.slice a cs.length x, .slice b us.length y] 105) := ⟨_, rfl⟩
  rw [← hW] at hX HP ⊢
  clear hW
  obtain ⟨p0, p1⟩ := HP.out
  go_wp2_with fail
  refine (HBT.out W (HS.out.kept hX (Nat.le_refl _))).mono ?_
  rintro e w1 ⟨rfl, hB1⟩
  have q0 := kept_cell hB1 p0
  have q1 := kept_cell hB1 p1
  have HL1 := Lib.hid (hX.trans (hB1.mono hX.size))
  clear hB1 hX p0 p1 HP HBT HS
  rcases H2.out with ⟨hok, ht⟩ | ⟨hno, ec, hc0, ht⟩
  · rw [ht]
    have HOK := Lib.hid hok
    clear hok ht
    by_cases h64 : us.length ≤ 64
    · have h64' : (us.length : Int) ≤ 64 := by omega
      go_wp2_with fail
      refine (lenU_next b us.length y w1).mono ?_
      rintro e w2 ⟨rfl, hB2⟩
      have r0 := kept_cell hB2 q0
      have r1 := kept_cell hB2 q1
      have HL2 := Lib.hid (HL1.out.trans (hB2.mono HL1.out.size))
      clear hB2 q0 q1 HL1
      go_wp2_with fail
      refine (HCH.out w2 (HN.out.kept HL2.out (Nat.le_refl _))).mono ?_
      rintro e w3 ⟨⟨r, rfl, hr⟩, hB3⟩
      have HL3 := Lib.hid (HL2.out.trans (hB3.mono HL2.out.size))
      have HR := Lib.hid (show r = true ↔ RightN cs us from ⟨fun h => ⟨hr.1 h, h64, HOK.out⟩, fun h => hr.2 h.kids⟩)
      clear hr hB3
      go_wp2_with fail
      exact bodyPost_ret (v := .bool r) (by simp [results, Tryz.results117, go_sem]) rfl ⟨⟨r, rfl, HR.out⟩, HL3.out⟩
    · have h64' : ¬ (us.length : Int) ≤ 64 := by omega
      have HR := Lib.hid (show ¬ RightN cs us from fun h => h64 h.len)
      go_wp2_with fail
      refine (lenU_next b us.length y w1).mono ?_
      rintro e w2 ⟨rfl, hB2⟩
      have HL2 := Lib.hid (HL1.out.trans (hB2.mono HL1.out.size))
      clear hB2 q0 q1 HL1
      go_wp2_with fail
      exact bodyPost_ret (v := .bool false) (by simp [results, Tryz.results117, go_sem]) rfl ⟨.no HR.out, HL2.out⟩
  · rw [ht]
    have HR := Lib.hid (show ¬ RightN cs us from fun h => hno h.ok)
    have hc0' : ¬ (ec : Int) = 0 := by omega
    clear hno ht
    go_wp2_with fail
    exact bodyPost_ret (v := .bool false) (by simp [results, Tryz.results117, go_sem]) rfl ⟨.no HR.out, HL1.out⟩

theorem byteCells_one (b : UInt8) : Lib.byteCells [b] = [.int .u8 b.toNat] := rfl
set_option maxRecDepth 100000 in
set_option maxHeartbeats 4000000 in
theorem nodeText_no (v : Value) (cs : List Chd) (us : List Upd) (w : World) (h : NodeAt w v cs us) (hi : NodeIn cs us) (hr : ¬ RightN cs us) :
    Calls Tryz.prog 108 #[v] w fun e w' => e = .returned (.tuple #[.string (S []), .int .i64 2]) ∧ Below w.heap.size w w' := by
  have HRT := Lib.hid (fun w' h => nodeRight_any v cs us w' h hi)
  have HN := Lib.hid h
  obtain ⟨a, b, x, y, rfl, -, -⟩ := h
  have HR := Lib.hid hr
  clear hr
  go_enter Tryz.func108, Tryz.ntmps108
  go_wp2_with fail
  refine (thread (HRT.out _ (HN.out.kept (B := w.heap.size) (by go_grown) (Nat.le_refl _))) w.heap.size w (by go_grown) (by go_grown)).mono ?_
  rintro e w1 ⟨⟨r, rfl, hr⟩, hX1, -, -, hs1, hz1⟩
  have hrf : r = false := by cases r; rfl; exact absurd (hr.1 rfl) HR.out
  subst hrf
  go_wp2_with fail
  go_ret2
  exact ⟨rfl, hX1⟩

set_option maxRecDepth 100000 in
set_option maxHeartbeats 4000000 in
theorem nodeText_ok (v : Value) (cs : List Chd) (us : List Upd) (w : World) (h : NodeAt w v cs us) (hi : NodeIn cs us) (hr : RightN cs us) :
    Calls Tryz.prog 108 #[v] w fun e w' => e = .returned (.tuple #[.string (S (textN cs us)), .int .i64 0]) ∧ Below w.heap.size w w' := by
  have HRT := Lib.hid (fun w' h => nodeRight_any v cs us w' h hi)
  have HN := Lib.hid h
  obtain ⟨a, b, x, y, rfl, h1, h2⟩ := h
  obtain ⟨ao, c, e, hs, -⟩ := id h2
  simp only [Value.slice.injEq] at e
  obtain ⟨rfl, -, rfl⟩ := e
  have HBT := Lib.hid (fun w' h => bufText_gen b us.length y us w' rfl h hi.lenU hi.wfU)
  rw [textAcc_ok us [] (fun u hu => (hr.ok u hu).check)] at HBT
  have HC := Lib.hid h1.at
  have HS := Lib.hid hs
  have HR := Lib.hid hr
  have hl16 := hr.kids.len
  have htu := textU_len60 us hr.ok
  have hul := hr.len
  have hwrap : IntKind.u8.wrap (cs.length : Int) = (cs.length : Int) := by rw [IntKind.wrap_u8]; omega
  have HTN := Lib.hid (show textN cs us = (UInt8.ofNat cs.length :: kidsT cs) ++ textU us by simp [textN])
  generalize textN cs us = TN at *
  generalize textU us = TU at *
  clear hr hs h1 h2 hi
  go_enter Tryz.func108, Tryz.ntmps108
  go_upto_region 1 with (fail)
  have hX : Below w.heap.size w (w.alloc (.cells #[.slice a cs.length x, .slice b us.length y] 105)) := by go_grown
  have HP := Lib.hid (show (w.alloc (.cells #[.slice a cs.length x, .slice b us.length y] 105)).cell? ⟨w.heap.size, 0, none⟩ = some (.slice a cs.length x) ∧ (w.alloc (.cells #[.slice a cs.length x, .slice b us.length y] 105)).cell? ⟨w.heap.size, 1, none⟩ = some (.slice b us.length y) by refine ⟨?_, ?_⟩ <;> (rw [World.cell?_alloc_at _ _ _ _ rfl]; rfl))
  obtain ⟨W, hW⟩ : ∃ W, W = w.alloc (.cells #[.slice a cs.length x, .slice b us.length y] 105) := ⟨_, rfl⟩
  rw [← hW] at hX HP ⊢
  clear hW
  obtain ⟨p0, p1⟩ := HP.out
  go_wp2_with fail
  refine (HRT.out W (HN.out.kept hX (Nat.le_refl _))).mono ?_
  rintro e w1 ⟨⟨r, rfl, hr⟩, hB1⟩
  obtain rfl : r = true := hr.2 HR.out
  have HQ := Lib.hid (And.intro (kept_cell hB1 p0) (kept_cell hB1 p1))
  have HL1 := Lib.hid (hX.trans (hB1.mono hX.size))
  have hz1 := HL1.out.size
  clear hB1 hX p0 p1 HP hr
  obtain ⟨p0, p1⟩ := HQ.out
  go_upto_region 4 with (fail)
  have hI := Lib.fresh_isBuilder 200 5 w1
  obtain ⟨W2, hW2⟩ : ∃ W2, W2 = w1.alloc (.cells #[.pointer none, .slice none 0 0] 200) := ⟨_, rfl⟩
  have hX2 : Below w1.heap.size w1 W2 := by rw [hW2]; go_grown
  have hW2z : W2.heap.size = w1.heap.size + 1 := by rw [hW2]; simp
  have HI := Lib.hid (show IsB w1.heap.size w1.heap.size [] W2 by rw [hW2]; exact hI)
  rw [← hW2]
  clear hW2 hI
  have q0 := kept_cell hX2 p0
  have q1 := kept_cell hX2 p1
  go_wp2_with fail
  refine (bld_byte w1.heap.size w1.heap.size [] (cs.length : Nat) W2 HI.out (by simp) (by omega)).mono ?_
  rintro e w2 ⟨rfl, hI2, hB2⟩
  have HL2 := Lib.hid (hX2.trans hB2)
  have hz2 : w1.heap.size + 1 ≤ w2.heap.size := by have := hB2.size; omega
  have HI2 := Lib.hid (show IsB w1.heap.size w1.heap.size (Lib.byteCells [UInt8.ofNat cs.length]) w2 by rw [byteCells_one, ofNat_toNat_lt (by omega)]; simpa using hI2)
  clear hI2 hB2 q0 q1 HI hX2
  have q0 := kept_cell HL2.out p0
  have q1 := kept_cell HL2.out p1
  go_wp2_with fail
  go_loopw [22] (fun i wr => ∃ j : Nat, i = .int .i64 j ∧ j ≤ cs.length ∧ Hid (IsB w1.heap.size w1.heap.size (Lib.byteCells (UInt8.ofNat cs.length :: kidsT (cs.take j))) wr) ∧ Hid (Below w1.heap.size w1 wr)) (fun i _ => cs.length - (intOf i).toNat)
  case atStart => exact ⟨0, rfl, Nat.zero_le _, by simpa [kidsT] using HI2, HL2⟩
  case round =>
    obtain ⟨j, rfl, hj, HI, HB⟩ := hrel
    have hj0 : (0 : Int) ≤ (j : Int) := Int.natCast_nonneg _
    have hzr := HB.out.size
    by_cases hjl : j < cs.length
    · have hj1 : (j : Int) < (cs.length : Int) := by omega
      obtain ⟨b0, off, rfl, hb, t0, t1, t2, t3⟩ := HC.out.cells4C j hjl
      have HBW := Lib.hid (HL1.out.trans (HB.out.mono hz1))
      have q0 := (cell_below HBW.out hb _).trans t0
      have q1 := (cell_below HBW.out hb _).trans t1
      have q2 := (cell_below HBW.out hb _).trans t2
      have q3 := (cell_below HBW.out hb _).trans t3
      have hok := HR.out.kids.ok _ (List.getElem_mem hjl)
      have hST := Lib.hid (kidsT_step hjl)
      have hkl := kidsT_len (cs.take j) (fun c hc => (HR.out.kids.ok c (List.mem_of_mem_take hc)).is.low)
      rw [List.length_take] at hkl
      clear t0 t1 t2 t3
      generalize cs[j] = c at *
      have hcl := chT_len c
      have hlo := hok.low
      have HT := Lib.hid (fun w => chText_any c w hok.gen hok.sum (by omega))
      have HOK := Lib.hid (show c.low.length ≤ 255 ∧ Placed c.addr from ⟨hok.is.low, hok.addr⟩)
      generalize hCT : chT c = CT at *
      clear hok hCT
      go_wp2_with fail
      have hX4 : Below wr.heap.size wr (wr.alloc (.cells #[.string (S c.low), .int .i64 c.addr, .int .u64 c.gen, .int .u32 c.sum] 179)) := by go_grown
      refine (HT.out _).mono ?_
      rintro e w4 ⟨⟨s, ok, rfl, hok, hst⟩, hB4⟩
      obtain rfl : ok = true := hok.2 HOK.out
      obtain rfl : s = CT := hst rfl
      have hX5 := hX4.trans (hB4.mono hX4.size)
      have HI4 := Lib.hid (HI.out.on hX5)
      have HB4 := Lib.hid (HB.out.trans (hX5.mono hzr))
      have hz4 := HB4.out.size
      have HW := Lib.hid (bld_write w1.heap.size w1.heap.size _ (S s) w4 HI4.out (by rw [Lib.byteCells_length, S_size, List.length_cons]; omega) hz4)
      clear HI HB hX4 hX5 hB4 hok hst q0 q1 q2 q3 HT
      go_wp2_with fail
      refine (HW.out).mono ?_
      rintro e w5 ⟨rfl, hI5, hB5⟩
      rw [strCells_S, ← byteCells_app, List.cons_append, ← hST.out] at hI5
      have HI5 := Lib.hid hI5
      have HB5 := Lib.hid (HB4.out.trans hB5)
      clear hI5 hB5 HW HI4 HB4
      go_wp2_with fail
      go_roundw
      (case rel => exact ⟨j + 1, by go_num, by omega, HI5, HB5⟩)
      (case measure => first | (simp [intOf]; done) | (simp [intOf]; omega))
    · obtain rfl : j = cs.length := by omega
      rw [List.take_length] at HI
      have HBW := Lib.hid (HL1.out.trans (HB.out.mono hz1))
      have q1 := kept_cell HB.out p1
      go_wp2_with fail
      refine (HBT.out wr (HS.out.kept HBW.out (Nat.le_refl _))).mono ?_
      rintro e w3 ⟨rfl, hB3⟩
      have HI3 := Lib.hid (HI.out.on hB3)
      have HL3 := Lib.hid (HBW.out.trans (hB3.mono HBW.out.size))
      have hz3 := hB3.size
      clear hB3 q1
      go_wp2_with fail
      refine (bld_string w1.heap.size w1.heap.size _ w3 HI3.out (by omega)).mono ?_
      rintro e w4 ⟨rfl, hB4⟩
      have HL4 := Lib.hid (HL3.out.trans (hB4.mono (by have := HL1.out.size; omega)))
      have hkl := kidsT_len cs (fun c hc => (HR.out.kids.ok c hc).is.low)
      generalize kidsT cs = KT at *
      go_wp2_with fail
      go_ret2
      exact ⟨by rw [HTN.out]; simp; show S (UInt8.ofNat cs.length :: KT) ++ S TU = _; rw [S_append]; rfl, HL4.out⟩

end Go.Proofs.YtafciefjlkdecaaGreat
