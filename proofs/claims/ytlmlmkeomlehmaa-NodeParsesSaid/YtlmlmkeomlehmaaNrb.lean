/-
  The walk of the document's Text of nodes.
-/
import Derived.Test.YtlmlmkeomlehmaaNra
namespace Go.Proofs.Ytlmlmkeomlehmaa
open Go.RowKit
attribute [local go_sem ↓] Go.wp_at_zero Go.wp_at_succ

set_option maxRecDepth 100000 in
set_option maxHeartbeats 4000000 in
theorem refNodeText_no (v : Value) (cs : List Chd) (us : List Upd) (w : World) (h : NodeAt w v cs us) (hi : NodeIn cs us) (hr : ¬ RightR cs us) :
    Calls Try.prog 15 #[v] w fun e w' => e = .returned (.tuple #[.string (S []), .int .i64 2]) ∧ Below w.heap.size w w' := by
  have HRT := Lib.hid (fun w' h => refRight_any v cs us w' h hi)
  have HN := Lib.hid h
  obtain ⟨a, b, x, y, rfl, -, -⟩ := h
  have HR := Lib.hid hr
  clear hr
  go_enter Try.func15, Try.ntmps15
  go_wp2_with fail
  refine (thread (HRT.out _ (HN.out.kept (B := w.heap.size) (by go_grown) (Nat.le_refl _))) w.heap.size w (by go_grown) (by go_grown)).mono ?_
  rintro e w1 ⟨⟨r, rfl, hr⟩, hX1, -, -, hs1, hz1⟩
  have hrf : r = false := by cases r; rfl; exact absurd (hr.1 rfl) HR.out
  subst hrf
  go_wp2_with fail
  go_ret2
  exact ⟨rfl, hX1⟩

set_option maxRecDepth 100000 in
set_option maxHeartbeats 8000000 in
theorem refNodeText_ok (v : Value) (cs : List Chd) (us : List Upd) (w : World) (h : NodeAt w v cs us) (hi : NodeIn cs us) (hr : RightR cs us) :
    Calls Try.prog 15 #[v] w fun e w' => e = .returned (.tuple #[.string (S (textN cs us)), .int .i64 0]) ∧ Below w.heap.size w w' := by
  have hcv := fun w n c => run_str1 (P := Try.prog) 54 9 5 Try.underlying54 Try.underlying5 Try.underlying9 w n c
  have HRT := Lib.hid (fun w' h => refRight_any v cs us w' h hi)
  have HN := Lib.hid h
  obtain ⟨a, b, x, y, rfl, h1, h2⟩ := h
  obtain ⟨ao, c, e, hs, -⟩ := id h2
  simp only [Value.slice.injEq] at e
  obtain ⟨rfl, -, rfl⟩ := e
  have hlu := hi.lenU
  have HBT := Lib.hid (fun w' h => refText_any b y us w' (by omega) hi.wfU h)
  rw [textAcc_ok us [] (fun u hu => (hr.n.ok u hu).check)] at HBT
  have HC := Lib.hid h1.at
  have HS := Lib.hid hs
  have HR := Lib.hid hr
  have hl16 := hr.n.kids.len
  have htu := textU_len60 us hr.n.ok
  have hul := hr.n.len
  have hwrap : IntKind.u8.wrap (cs.length : Int) = (cs.length : Int) := by rw [IntKind.wrap_u8]; omega
  have HTN := Lib.hid (show textN cs us = (UInt8.ofNat cs.length :: kidsT cs) ++ textU us by simp [textN])
  generalize textN cs us = TN at *
  generalize textU us = TU at *
  clear hr hs h1 h2 hi
  go_enter Try.func15, Try.ntmps15
  go_upto_region 1 with (fail)
  have hX : Below w.heap.size w (w.alloc (.cells #[.slice a cs.length x, .slice b us.length y] 35)) := by go_grown
  have HP := Lib.hid (show (w.alloc (.cells #[.slice a cs.length x, .slice b us.length y] 35)).cell? ⟨w.heap.size, 0, none⟩ = some (.slice a cs.length x) ∧ (w.alloc (.cells #[.slice a cs.length x, .slice b us.length y] 35)).cell? ⟨w.heap.size, 1, none⟩ = some (.slice b us.length y) by refine ⟨?_, ?_⟩ <;> (rw [World.cell?_alloc_at _ _ _ _ rfl]; rfl))
  generalize w.alloc (.cells #[.slice a cs.length x, .slice b us.length y] 35) = W at *
  obtain ⟨p0, p1⟩ := HP.out
  go_wp2_with fail
  refine (HRT.out W (HN.out.kept hX (Nat.le_refl _))).mono ?_
  rintro e w1 ⟨⟨r, rfl, hr⟩, hB1⟩
  obtain rfl : r = true := hr.2 HR.out
  have HQ := Lib.hid (And.intro (kept_cell hB1 p0) (kept_cell hB1 p1))
  have HL1 := Lib.hid (hX.trans (hB1.mono hX.size))
  have hz1 := HL1.out.size
  clear hB1 hX p0 p1 HP hr
  obtain ⟨p0, p1⟩ := HQ.out
  go_upto_region 5 with (fail)
  have hX2 : Below w1.heap.size w1 (w1.alloc (.cells #[.int .u8 cs.length] 5)) := by go_grown
  have q0 := kept_cell hX2 p0
  have q1 := kept_cell hX2 p1
  generalize hW2 : w1.alloc (.cells #[.int .u8 cs.length] 5) = W2 at *
  have HL2 := Lib.hid (HL1.out.trans (hX2.mono hz1))
  have HQ2 := Lib.hid (And.intro q0 q1)
  clear hW2 hX2 p0 p1 HQ
  go_wp2_with fail
  go_loopw [5, 6] (fun s i wr => ∃ j : Nat, i = .int .i64 j ∧ s = .string (S (UInt8.ofNat cs.length :: kidsT (cs.take j))) ∧ j ≤ cs.length ∧ Hid (Below W2.heap.size W2 wr)) (fun _ i _ => cs.length - (intOf i).toNat)
  case atStart => exact ⟨0, rfl, by simp [kidsT], Nat.zero_le _, Lib.hid (Below.refl _ _)⟩
  case round =>
    obtain ⟨j, rfl, rfl, hj, HB⟩ := hrel
    have hj0 : (0 : Int) ≤ (j : Int) := Int.natCast_nonneg _
    have q0 := kept_cell HB.out HQ2.out.1
    have q1 := kept_cell HB.out HQ2.out.2
    have HBW := Lib.hid (HL2.out.trans (HB.out.mono HL2.out.size))
    by_cases hjl : j < cs.length
    · have hj1 : (j : Int) < (cs.length : Int) := by omega
      obtain ⟨b0, off, rfl, hb, t0, t1, t2, t3⟩ := HC.out.cells4C j hjl
      have r0 := (cell_below HBW.out hb _).trans t0
      have r1 := (cell_below HBW.out hb _).trans t1
      have r2 := (cell_below HBW.out hb _).trans t2
      have r3 := (cell_below HBW.out hb _).trans t3
      have hok := HR.out.n.kids.ok _ (List.getElem_mem hjl)
      have hST := Lib.hid (kidsT_step hjl)
      have hkl := kidsT_len (cs.take j) (fun c hc => (HR.out.n.kids.ok c (List.mem_of_mem_take hc)).is.low)
      rw [List.length_take] at hkl
      clear t0 t1 t2 t3
      generalize cs[j] = c at *
      obtain ⟨low, ad, ge, su⟩ := c
      have hlo : low.length ≤ 16 := hok.low
      have had := hok.addr
      have hge : ge < 18446744073709551616 := hok.gen
      have hsu : su < 4294967296 := hok.sum
      dsimp only at had r0 r1 r2 r3
      obtain ⟨an, rfl⟩ := Int.eq_ofNat_of_zero_le had.1
      have HCT := Lib.hid (show chT ⟨low, (an : Int), ge, su⟩ = [UInt8.ofNat low.length] ++ low ++ ptrL an ge su by unfold chT joinT; simp)
      have hpl := ptrL_len an ge su
      have HF := Lib.hid (ptr_fit (a := an) (by omega) hge hsu)
      have HPL := Lib.hid (show wtext [(4, an), (8, ge), (4, su)] = ptrL an ge su from rfl)
      generalize ptrL an ge su = PL at *
      generalize chT ⟨low, (an : Int), ge, su⟩ = CT at *
      generalize kidsT (cs.take j) = A at *
      have hwa : IntKind.u64.wrap (an : Int) = (an : Int) := by rw [IntKind.wrap_u64]; omega
      have hws : IntKind.u64.wrap (su : Int) = (su : Int) := by rw [IntKind.wrap_u64]; omega
      have hwl : IntKind.u8.wrap (low.length : Int) = (low.length : Int) := by rw [IntKind.wrap_u8]; omega
      clear hok
      go_upto_region 9 with (fail)
      have hX4 : Below wr.heap.size wr (wr.alloc (.cells #[.string (S low), .int .i64 an, .int .u64 ge, .int .u32 su] 50)) := by go_grown
      have HK := Lib.hid (show ∀ i v, [Value.string (S low), .int .i64 an, .int .u64 ge, .int .u32 su][i]? = some v → (wr.alloc (.cells #[.string (S low), .int .i64 an, .int .u64 ge, .int .u32 su] 50)).cell? ⟨wr.heap.size, i, none⟩ = some v from fun i v hv => by rw [World.cell?_alloc_at _ _ _ _ rfl]; simpa using hv)
      generalize wr.alloc (.cells #[.string (S low), .int .i64 an, .int .u64 ge, .int .u32 su] 50) = w4 at *
      have HB4 := Lib.hid (HB.out.trans (hX4.mono HB.out.size))
      have s0 := kept_cell hX4 q0
      have s1 := kept_cell hX4 q1
      clear hX4 q0 q1 r0 r1 r2 r3 HB HBW
      have k0 := HK.out 0 _ rfl
      have k1 := HK.out 1 _ rfl
      have k2 := HK.out 2 _ rfl
      have k3 := HK.out 3 _ rfl
      have hX5 : Below w4.heap.size w4 (w4.alloc (.cells #[.int .i64 4, .int .i64 8, .int .i64 4] 3)) := by go_grown
      have g0 := kept_cell hX5 k0
      have g1 := kept_cell hX5 k1
      have g2 := kept_cell hX5 k2
      have g3 := kept_cell hX5 k3
      have HI := Lib.hid (intsW_new w4 #[.int .i64 4, .int .i64 8, .int .i64 4] 3 (0, 0) [(4, an), (8, ge), (4, su)] rfl)
      go_wp2_with fail
      have hX6 : Below (w4.alloc (.cells #[.int .i64 4, .int .i64 8, .int .i64 4] 3)).heap.size (w4.alloc (.cells #[.int .i64 4, .int .i64 8, .int .i64 4] 3)) ((w4.alloc (.cells #[.int .i64 4, .int .i64 8, .int .i64 4] 3)).alloc (.cells #[.int .u64 an, .int .u64 ge, .int .u64 su] 47)) := by go_grown
      refine (refWrite_fit (some ⟨w4.heap.size, 0, none⟩) (some ⟨w4.heap.size + 1, 0, none⟩) 3 3 [(4, an), (8, ge), (4, su)] _ (HI.out.kept hX6 (Nat.le_refl _)) (numsW_lies (w4.alloc (.cells #[.int .i64 4, .int .i64 8, .int .i64 4] 3)) (w4.heap.size + 1) (by simp) #[.int .u64 an, .int .u64 ge, .int .u64 su] 47 [(4, an), (8, ge), (4, su)] rfl) (ptr_wide an ge su) HF.out (by simp) (fun p hp => by
        simp only [List.mem_cons, List.not_mem_nil, or_false] at hp
        rcases hp with rfl | rfl | rfl
        · show an < _; omega
        · exact hge
        · show su < _; omega)).mono ?_
      rintro e w6 ⟨rfl, hB6⟩
      rw [HPL.out]
      have hX := hX5.trans ((hX6.mono hX5.size).trans (hB6.mono (by have := hX6.size; have := hX5.size; omega)))
      have HL6 := Lib.hid (HB4.out.trans (hX.mono HB4.out.size))
      have s0 := kept_cell hX s0
      have k0 := kept_cell hX k0
      clear hX hX5 hX6 hB6 g0 g1 g2 g3 k1 k2 k3 HI HB4 s1
      have g0 := cell_past (.cells #[.int .u8 low.length] 5) k0
      have hX7 : Below w6.heap.size w6 (w6.alloc (.cells #[.int .u8 low.length] 5)) := by go_grown
      have HL7 := Lib.hid (HL6.out.trans (hX7.mono HL6.out.size))
      clear hX7
      go_wp2_with fail
      go_roundw
      (case rel => exact ⟨j + 1, by go_num, by rw [hST.out, HCT.out]; simp, by omega, HL7⟩)
      (case measure => first | (simp [intOf]; done) | (simp [intOf]; omega))
    · obtain rfl : j = cs.length := by omega
      rw [List.take_length]
      go_wp2_with fail
      refine (HBT.out wr (HS.out.kept HBW.out (Nat.le_refl _))).mono ?_
      rintro e w3 ⟨rfl, hB3⟩
      have HL3 := Lib.hid (HBW.out.trans (hB3.mono HBW.out.size))
      clear hB3 q1 q0
      have hkl := kidsT_len cs (fun c hc => (HR.out.n.kids.ok c hc).is.low)
      generalize kidsT cs = KT at *
      go_wp2_with fail
      go_ret2
      exact ⟨by rw [HTN.out]; simp, HL3.out⟩

end Go.Proofs.Ytlmlmkeomlehmaa
