/-
  The walk of a table's Text.
-/
import Derived.Test.YtblleinahlaohaaBtb
namespace Go.Proofs.Ytblleinahlaohaa
open Go.RowKit Go.Shelf
set_option linter.unusedVariables false
attribute [local go_sem ↓] Go.wp_at_zero Go.wp_at_succ

def tailL (zs : List Int) : List UInt8 := zs.flatMap fun z => le z.toNat 2
def textL (zs : List Int) : List UInt8 := le zs.length 8 ++ tailL zs
theorem tailL_take (zs : List Int) (j : Nat) (hj : j < zs.length) : tailL (zs.take (j + 1)) = tailL (zs.take j) ++ le (zs[j]).toNat 2 := by
  unfold tailL; rw [List.take_succ_eq_append_getElem hj, List.flatMap_append, List.flatMap_cons, List.flatMap_nil, List.append_nil]
theorem tailL_cons (zs : List Int) (j : Nat) (hj : j < zs.length) : tailL (zs.drop j) = le (zs[j]).toNat 2 ++ tailL (zs.drop (j + 1)) := by
  unfold tailL; rw [List.drop_eq_getElem_cons hj, List.flatMap_cons]
theorem tailL_len : ∀ l : List Int, (tailL l).length = 2 * l.length
  | [] => rfl
  | z :: l => by
    have ih := tailL_len l
    unfold tailL at ih ⊢
    rw [List.flatMap_cons, List.length_append, ih, le_length, List.length_cons]; omega
theorem Ints.at {n₀ : Nat} {w : World} {ao : Option Addr} {n c : Nat} {l : List Int} (h : Ints n₀ w (.slice ao n c) l) (j : Nat) (hj : j < l.length) : ∃ b off, ao = some ⟨b, off, none⟩ ∧ b < n₀ ∧ w.cell? ⟨b, off + j, none⟩ = some (.int .i64 l[j]) := by
  rcases h with ⟨-, rfl⟩ | ⟨b, off, cap, e, hb, hc⟩
  · simp at hj
  · simp only [Value.slice.injEq] at e
    refine ⟨b, off, e.1, hb, ?_⟩
    have := hc j hj
    rw [List.getElem?_eq_getElem hj] at this
    exact this

set_option maxRecDepth 100000 in
set_option maxHeartbeats 4000000 in
theorem text_any (nb sp : Int) (sv : Value) (zs : List Int) (w : World) (h : Ints w.heap.size w sv zs) (hz : ∀ z ∈ zs, 0 ≤ z ∧ z < 65536) (hl : zs.length ≤ 900) :
    Calls Try.prog 12 #[.agg #[.int .i64 nb, .int .i64 sp, sv]] w fun e w' => e = .returned (.string (S (textL zs))) ∧ Below w.heap.size w w' := by
  obtain ⟨a, c, rfl⟩ := h.len
  have HI := Lib.hid h
  have HZ := Lib.hid hz
  clear h hz
  go_enter Try.func12, Try.ntmps12
  go_wp2_with fail
  have hX : Below w.heap.size w ((w.alloc (.cells #[.int .i64 nb, .int .i64 sp, .slice a zs.length c] 25)).alloc (.cells #[.int .i64 8] 3)) := by go_grown
  have HW := Lib.hid (intsW_new (w.alloc (.cells #[.int .i64 nb, .int .i64 sp, .slice a zs.length c] 25)) #[.int .i64 8] 3 (0, 0) [(8, zs.length)] rfl)
  refine (gen_any nb sp a zs.length c _ (by omega)).mono ?_
  rintro e w1 ⟨rfl, hB1⟩
  have c2 : ((w.alloc (.cells #[.int .i64 nb, .int .i64 sp, .slice a zs.length c] 25)).alloc (.cells #[.int .i64 8] 3)).cell? ⟨w.heap.size, 2, none⟩ = some (.slice a zs.length c) := by
    rw [World.cell?_alloc_past _ _ _ (by simp), World.cell?_alloc_at _ _ _ _ rfl]; rfl
  rw [World.size_alloc] at HW
  have HW1 := Lib.hid (HW.out.kept hB1 (by simp))
  have c21 := kept_cell hB1 c2
  have HL1 := Lib.hid (hX.trans (hB1.mono (by simp; omega)))
  have hz1 := hB1.size
  simp at hz1
  clear c2 hB1 HW hX
  go_wp2_with fail
  have hY : Below w1.heap.size w1 (w1.alloc (.cells #[.int .u64 (zs.length : Nat)] 50)) := by go_grown
  have HN := Lib.hid (numsW_new w1 #[.int .u64 (zs.length : Nat)] 50 (0, 0) [(8, zs.length)] rfl)
  refine (write_fit (some ⟨w.heap.size + 1, 0, none⟩) (some ⟨w1.heap.size, 0, none⟩) 1 1 [(8, zs.length)] _ (HW1.out.kept hY (by omega)) HN.out (wide1 8 _ (by decide) (by decide)) (fun p hp => by rw [List.mem_singleton.1 hp]; show zs.length < 256 ^ 8; omega) (by simp)).mono ?_
  rintro e w2 ⟨rfl, hB2⟩
  have c22 := kept_cell hB2 (kept_cell hY c21)
  have HL2 := Lib.hid (HL1.out.trans ((hY.mono HL1.out.size).trans (hB2.mono (by simp; omega))))
  rw [show wtext [(8, zs.length)] = le zs.length 8 by simp [wtext]]
  clear c21 HW1 HN hY hB2 HL1
  have hz2 := HL2.out.size
  go_wp2_with fail
  go_loopw [20, 3] (fun i v wr => ∃ j : Nat, i = .int .i64 j ∧ j ≤ zs.length ∧ v = .string (S (le zs.length 8 ++ tailL (zs.take j))) ∧ Below w.heap.size w wr) (fun i _ _ => zs.length - (intOf i).toNat)
  case atStart => exact ⟨0, rfl, Nat.zero_le _, by simp [tailL], HL2.out⟩
  case round =>
    obtain ⟨j, rfl, hj, rfl, hB⟩ := hrel
    have hj0 : (0 : Int) ≤ (j : Int) := Int.natCast_nonneg _
    have hzr := hB.size
    by_cases hjl : j < zs.length
    · have hj1 : (j : Int) < (zs.length : Int) := by omega
      obtain ⟨b, off, rfl, hb, q0⟩ := (HI.out.below hB).at j hjl
      have hzz := HZ.out _ (List.getElem_mem hjl)
      have HT := Lib.hid (tailL_take zs j hjl)
      have htl : (tailL (zs.take j)).length ≤ 1800 := by rw [tailL_len, List.length_take]; omega
      generalize zs[j] = z at *
      obtain ⟨y, rfl⟩ := Int.eq_ofNat_of_zero_le hzz.1
      have hwy : IntKind.u64.wrap (y : Int) = (y : Int) := by rw [IntKind.wrap_u64]; omega
      have hy : y < 65536 := by omega
      simp only [Int.toNat_natCast] at HT
      go_wp2_with fail
      have hX : Below wr.heap.size wr ((wr.alloc (.cells #[.int .i64 2] 3)).alloc (.cells #[.int .u64 (y : Nat)] 50)) := by go_grown
      have HW := (intsW_new wr #[.int .i64 2] 3 (0, 0) [(2, y)] rfl).kept (show Below (wr.alloc (.cells #[.int .i64 2] 3)).heap.size (wr.alloc (.cells #[.int .i64 2] 3)) ((wr.alloc (.cells #[.int .i64 2] 3)).alloc (.cells #[.int .u64 (y : Nat)] 50)) by go_grown) (Nat.le_refl _)
      have HN := numsW_new (wr.alloc (.cells #[.int .i64 2] 3)) #[.int .u64 (y : Nat)] 50 (0, 0) [(2, y)] rfl
      rw [World.size_alloc] at HN
      refine (write_fit (some ⟨wr.heap.size, 0, none⟩) (some ⟨wr.heap.size + 1, 0, none⟩) 1 1 [(2, y)] _ HW HN (wide1 2 _ (by decide) (by decide)) (fun p hp => by rw [List.mem_singleton.1 hp]; show y < 256 ^ 2; omega) (by simp)).mono ?_
      rintro e w4 ⟨rfl, hB4⟩
      rw [show wtext [(2, y)] = le y 2 by simp [wtext]]
      have HL4 := Lib.hid (hB.trans ((hX.mono hzr).trans (hB4.mono (by simp; omega))))
      clear hX HW HN hB4
      go_wp2_with fail
      exact ⟨⟨j + 1, by go_num, by omega, by rw [HT.out], HL4.out⟩, by simp [intOf]; omega⟩
    · obtain rfl : j = zs.length := by omega
      have HF := Lib.hid (show le zs.length 8 ++ tailL (zs.take zs.length) = textL zs by rw [List.take_length]; rfl)
      rw [HF.out]
      go_wp2_with fail
      go_ret
      exact ⟨rfl, hB⟩

end Go.Proofs.Ytblleinahlaohaa
