/-
  The walk of law 20's of.
-/
import Derived.Test.YtlmlmkeomlehmaaOfa
import Derived.Deep.RegionLawGrows
namespace Go.Proofs.Ytlmlmkeomlehmaa
open Go.RowKit
attribute [local go_sem ↓] Go.wp_at_zero Go.wp_at_succ

/-- A slice of texts. -/
abbrev StrAt (w : World) (a : Option Addr) (l : List (List UInt8)) : Prop := SlAt (fun s : List UInt8 => [Value.string (S s)]) 1 w a l
theorem StrAt.cell {w : World} {a : Option Addr} {l : List (List UInt8)} (h : StrAt w a l) (i : Nat) (hi : i < l.length) : ∃ b off, a = some ⟨b, off, none⟩ ∧ b < w.heap.size ∧ w.cell? ⟨b, off + i, none⟩ = some (.string (S l[i])) := by
  obtain ⟨b, off, rfl, hb, hc⟩ := h.at (by omega)
  have := hc i hi 0 _ rfl
  rw [Nat.mul_one, Nat.add_zero] at this
  exact ⟨b, off, rfl, hb, this⟩
theorem elemS : Try.prog.elem 55 = 9 := by kernel_rfl
theorem underS : Try.prog.underlying 55 = some (.slice (Try.prog.elem 55)) := by rw [elemS]; exact Try.underlying55
theorem sizeElemS (w : World) : (sizeOf (Try.prog.elem 55)).run Try.prog w = .ok 1 w := by kernel_rfl
theorem cut_strs (ao : Option Addr) (n c i : Nat) (hin : i ≤ n) (hnc : n ≤ c) (w : World) : (Instr.slice 55 (.slice ao n c) none (some (.int .i64 (i : Int))) none).run Try.prog w = .ok (.slice ao i c) w := by
  rw [run_slice_h w 55 ao n c underS .i64 i (by omega) (by omega)]
  rw [sizeElemS]
  have e : ao.map (·.add 0) = ao := by cases ao <;> simp [Addr.add]
  simp [Result.andThen, sliced, e]

theorem cell_four_at (w : World) (g : Nat) (hg : w.heap.size = g) (x y z u : Value) (t : TypeId) : ∀ j v, [x, y, z, u][j]? = some v → (w.alloc (.cells #[x, y, z, u] t)).cell? ((⟨g, 0, none⟩ : Addr).add j) = some v := by
  subst hg; exact cell_four_new _ _ _ _ _ _
theorem take_min (s : List UInt8) (n : Nat) : s.take (min s.length n) = s.take n := by
  by_cases h : s.length ≤ n
  · rw [Nat.min_eq_left h, List.take_length, List.take_of_length_le h]
  · rw [Nat.min_eq_right (by omega)]
theorem kid_oneCell (a : ByteArray) (x y z : Int) : ∀ u ∈ [Value.string a, .int .i64 x, .int .u64 y, .int .u32 z], u.oneCell' = true := by
  intro u hu
  simp only [List.mem_cons, List.not_mem_nil, or_false] at hu
  rcases hu with rfl | rfl | rfl | rfl <;> rfl
theorem kid_low (j : Nat) (s : List UInt8) : (kid j s).low = (4 * UInt8.ofNat j + 4 + UInt8.ofNat (s.length % 4)) :: s.take 5 := by simp [kid]
theorem cellsC_kid (l : List Chd) (j : Nat) (s : List UInt8) : cellsC (l ++ [kid j s]) = cellsC l ++ [.string (S (kid j s).low), .int .i64 ((j : Int) + 2), .int .u64 0, .int .u32 0] := cellsC_snoc _ _
/-- How of begins. -/
theorem of_start (w : World) : OfAt ((((((w.alloc (.cells #[.slice none 0 0, .slice none 0 0] 31)).alloc (.cells #[.slice none 0 0, .slice none 0 0] 35)).alloc (.cells #[.string ⟨#[]⟩, .int .i64 1, .int .u64 0, .int .u32 0] 100)).alloc (.cells #[.slice (some ⟨w.heap.size + 1 + 1, 0, none⟩) 1 1, .slice none 0 0] 31)).alloc (.cells #[.string ⟨#[]⟩, .int .i64 1, .int .u64 0, .int .u32 0] 50)).alloc (.cells #[.slice (some ⟨w.heap.size + 1 + 1 + 1 + 1, 0, none⟩) 1 1, .slice none 0 0] 35)) ((((((w.alloc (.cells #[.slice none 0 0, .slice none 0 0] 31)).alloc (.cells #[.slice none 0 0, .slice none 0 0] 35)).alloc (.cells #[.string ⟨#[]⟩, .int .i64 1, .int .u64 0, .int .u32 0] 100)).alloc (.cells #[.slice (some ⟨w.heap.size + 1 + 1, 0, none⟩) 1 1, .slice none 0 0] 31)).alloc (.cells #[.string ⟨#[]⟩, .int .i64 1, .int .u64 0, .int .u32 0] 50)).alloc (.cells #[.slice (some ⟨w.heap.size + 1 + 1 + 1 + 1, 0, none⟩) 1 1, .slice none 0 0] 35)) (w.heap.size + 1 + 1) (w.heap.size + 1 + 1 + 1) (w.heap.size + 1 + 1 + 1 + 1 + 1) (kidsTo [] 0) (kidsTo [] 0) (some ⟨w.heap.size + 1 + 1, 0, none⟩) 1 (some ⟨w.heap.size + 1 + 1 + 1 + 1, 0, none⟩) 1 (.slice none 0 0) (.slice none 0 0) := by
  have h1 := ((((RowIs.new ((w.alloc (.cells #[.slice none 0 0, .slice none 0 0] 31)).alloc (.cells #[.slice none 0 0, .slice none 0 0] 35)) 100 [.string ⟨#[]⟩, .int .i64 1, .int .u64 0, .int .u32 0]).alloc (.cells #[.slice (some ⟨w.heap.size + 1 + 1, 0, none⟩) 1 1, .slice none 0 0] 31)).alloc (.cells #[.string ⟨#[]⟩, .int .i64 1, .int .u64 0, .int .u32 0] 50)).alloc (.cells #[.slice (some ⟨w.heap.size + 1 + 1 + 1 + 1, 0, none⟩) 1 1, .slice none 0 0] 35))
  have h2 := ((RowIs.new ((((w.alloc (.cells #[.slice none 0 0, .slice none 0 0] 31)).alloc (.cells #[.slice none 0 0, .slice none 0 0] 35)).alloc (.cells #[.string ⟨#[]⟩, .int .i64 1, .int .u64 0, .int .u32 0] 100)).alloc (.cells #[.slice (some ⟨w.heap.size + 1 + 1, 0, none⟩) 1 1, .slice none 0 0] 31)) 50 [.string ⟨#[]⟩, .int .i64 1, .int .u64 0, .int .u32 0]).alloc (.cells #[.slice (some ⟨w.heap.size + 1 + 1 + 1 + 1, 0, none⟩) 1 1, .slice none 0 0] 35))
  simp only [World.size_alloc] at h1 h2
  refine ⟨?_, ?_, ?_, ?_, fun o => ?_, fun o => ?_, ownsRow_shut (Nat.le_refl _) h1 (Nat.le_refl _) (by unfold maxLen; omega) rfl rfl, ownsRow_shut (by omega) h2 (Nat.le_refl _) (by unfold maxLen; omega) rfl rfl, by simp [kidsTo], by simp [kidsTo], Below.refl _ _, by omega, by omega, by omega⟩
  · rw [World.cell?_alloc_past _ _ _ (by simp <;> omega), World.cell?_alloc_past _ _ _ (by simp <;> omega), World.cell?_alloc_at _ _ _ _ (by simp)]; rfl
  · rw [World.cell?_alloc_past _ _ _ (by simp <;> omega), World.cell?_alloc_past _ _ _ (by simp <;> omega), World.cell?_alloc_at _ _ _ _ (by simp)]; rfl
  · rw [World.cell?_alloc_at _ _ _ _ (by simp)]; rfl
  · rw [World.cell?_alloc_at _ _ _ _ (by simp)]; rfl
  · rw [World.frozen?_alloc_past _ _ _ (by simp <;> omega), World.frozen?_alloc_past _ _ _ (by simp <;> omega), World.frozen?_alloc_at _ _ _ _ (by simp)]
  · rw [World.frozen?_alloc_at _ _ _ _ (by simp)]

theorem NilAt.on' {w w' : World} {p B : Nat} (h : NilAt w p) (hb : Below B w w') (hp : p < B) : NilAt w' p :=
  ⟨(cell_below hb hp 0).trans h.c0, (cell_below hb hp 1).trans h.c1, (World.frozen?_of_block (hb.block p hp)).trans h.f0, (World.frozen?_of_block (hb.block p hp)).trans h.f1⟩
theorem of_start2 (w : World) : NilAt ((((((w.alloc (.cells #[.slice none 0 0, .slice none 0 0] 31)).alloc (.cells #[.slice none 0 0, .slice none 0 0] 35)).alloc (.cells #[.string ⟨#[]⟩, .int .i64 1, .int .u64 0, .int .u32 0] 100)).alloc (.cells #[.slice (some ⟨w.heap.size + 1 + 1, 0, none⟩) 1 1, .slice none 0 0] 31)).alloc (.cells #[.string ⟨#[]⟩, .int .i64 1, .int .u64 0, .int .u32 0] 50)).alloc (.cells #[.slice (some ⟨w.heap.size + 1 + 1 + 1 + 1, 0, none⟩) 1 1, .slice none 0 0] 35)) w.heap.size ∧ NilAt ((((((w.alloc (.cells #[.slice none 0 0, .slice none 0 0] 31)).alloc (.cells #[.slice none 0 0, .slice none 0 0] 35)).alloc (.cells #[.string ⟨#[]⟩, .int .i64 1, .int .u64 0, .int .u32 0] 100)).alloc (.cells #[.slice (some ⟨w.heap.size + 1 + 1, 0, none⟩) 1 1, .slice none 0 0] 31)).alloc (.cells #[.string ⟨#[]⟩, .int .i64 1, .int .u64 0, .int .u32 0] 50)).alloc (.cells #[.slice (some ⟨w.heap.size + 1 + 1 + 1 + 1, 0, none⟩) 1 1, .slice none 0 0] 35)) (w.heap.size + 1) :=
  ⟨(((((NilAt.new w 31 w.heap.size rfl).alloc _).alloc _).alloc _).alloc _).alloc _, ((((NilAt.new (w.alloc (.cells #[.slice none 0 0, .slice none 0 0] 31)) 35 (w.heap.size + 1) (by simp)).alloc _).alloc _).alloc _).alloc _⟩

set_option maxRecDepth 100000 in
set_option maxHeartbeats 8000000 in
theorem of_any (ao : Option Addr) (c : Nat) (lows : List (List UInt8)) (bo : Option Addr) (d : Nat) (keys : List (List UInt8)) (w : World) (hs : StrAt w ao lows) (hc : lows.length ≤ c) (hk : StrAt w bo keys) (hd : keys.length ≤ d)
    (hsl : ∀ s ∈ lows, s.length ≤ 140737488355328) (hkl2 : ∀ s ∈ keys, s.length ≤ 140737488355328) :
    Calls Try.prog 29 #[.slice ao lows.length c, .slice bo keys.length d] w fun e w' => (∃ va vb, e = .returned (.tuple #[va, vb]) ∧ NodeAt w' va (kids lows) (withAll (upds keys)) ∧ NodeAt w' vb (kids lows) (withAll (upds keys))) ∧ Below w.heap.size w w' := by
  obtain ⟨i0, hi, iz0, iz1, iz2⟩ := info_parts infoC
  obtain ⟨j0, ji, jz0, jz1, jz2⟩ := info_parts infoC2
  have hcv := fun w n c => run_str1 (P := Try.prog) 54 9 5 Try.underlying54 Try.underlying5 Try.underlying9 w n c
  have hmin := fun ts t a b w => run_tmin (P := Try.prog) ts t a b w
  have hm : tmin (lows.length : Int) 20 = ((min lows.length 20 : Nat) : Int) := tmin_nat _ 20
  generalize hM : min lows.length 20 = m at *
  have hmx : m ≤ lows.length := by omega
  have hm20 : m ≤ 20 := by omega
  have hcut := fun W => cut_strs ao lows.length c m hmx hc W
  have HM := Lib.hid hM
  clear hM
  go_enter Try.func29, Try.ntmps29
  go_wp2_with fail
  have HST := Lib.hid (of_start w)
  have HS2 := Lib.hid (of_start2 w)
  have hWB : Below w.heap.size w ((((((w.alloc (.cells #[.slice none 0 0, .slice none 0 0] 31)).alloc (.cells #[.slice none 0 0, .slice none 0 0] 35)).alloc (.cells #[.string ⟨#[]⟩, .int .i64 1, .int .u64 0, .int .u32 0] 100)).alloc (.cells #[.slice (some ⟨w.heap.size + 1 + 1, 0, none⟩) 1 1, .slice none 0 0] 31)).alloc (.cells #[.string ⟨#[]⟩, .int .i64 1, .int .u64 0, .int .u32 0] 50)).alloc (.cells #[.slice (some ⟨w.heap.size + 1 + 1 + 1 + 1, 0, none⟩) 1 1, .slice none 0 0] 35)) := by go_grown
  generalize ((((((w.alloc (.cells #[.slice none 0 0, .slice none 0 0] 31)).alloc (.cells #[.slice none 0 0, .slice none 0 0] 35)).alloc (.cells #[.string ⟨#[]⟩, .int .i64 1, .int .u64 0, .int .u32 0] 100)).alloc (.cells #[.slice (some ⟨w.heap.size + 1 + 1, 0, none⟩) 1 1, .slice none 0 0] 31)).alloc (.cells #[.string ⟨#[]⟩, .int .i64 1, .int .u64 0, .int .u32 0] 50)).alloc (.cells #[.slice (some ⟨w.heap.size + 1 + 1 + 1 + 1, 0, none⟩) 1 1, .slice none 0 0] 35)) = W0 at *
  have HWB := Lib.hid hWB
  have HS := Lib.hid hs
  have HK := Lib.hid hk
  clear hWB hs hk
  go_loopw [29] (fun i wr => ∃ (j : Nat) (a1 : Option Addr) (y1 : Nat) (a2 : Option Addr) (y2 : Nat), i = .int .i64 j ∧ j ≤ m ∧ OfAt W0 wr (w.heap.size + 1 + 1) (w.heap.size + 1 + 1 + 1) (w.heap.size + 1 + 1 + 1 + 1 + 1) (kidsTo lows j) (kidsTo lows j) a1 y1 a2 y2 (.slice none 0 0) (.slice none 0 0)) (fun i _ => m - (intOf i).toNat)
  case atStart => exact ⟨0, _, _, _, _, rfl, Nat.zero_le _, HST.out⟩
  case round =>
    obtain ⟨j, a1, y1, a2, y2, rfl, hj, hO⟩ := hrel
    have hj0 : (0 : Int) ≤ (j : Int) := Int.natCast_nonneg _
    have HO := Lib.hid hO
    have hB := (HWB.out).trans (hO.below.mono (by omega))
    by_cases hjm : j < m
    · have hj1 : (j : Int) < (m : Int) := by omega
      have hjl : j < lows.length := by omega
      obtain ⟨b0, off, rfl, hb, t0⟩ := HS.out.cell j hjl
      have q0 := (cell_below hB hb _).trans t0
      have hsb := hsl _ (List.getElem_mem hjl)
      have HKS := Lib.hid (kidsTo_succ lows hjl)
      have HKL := Lib.hid (kidsTo_len lows (Nat.le_of_lt hjl))
      clear t0 hO hB
      generalize lows[j] = s at *
      have hm5 : tmin (s.length : Int) 5 = ((min s.length 5 : Nat) : Int) := tmin_nat _ 5
      have hm5a : min s.length 5 ≤ s.length := Nat.min_le_left _ _
      have hs5 := fun W => take_str s (min s.length 5) hm5a W
      have htk : s.take (min s.length 5) = s.take 5 := by
        by_cases h : s.length ≤ 5
        · rw [Nat.min_eq_left h, List.take_length, List.take_of_length_le h]
        · rw [Nat.min_eq_right (by omega)]
      rw [htk] at hs5
      clear htk
      generalize min s.length 5 = m5 at *
      have c0 := HO.out.p0
      have c1 := HO.out.q0
      go_wp2_with fail
      go_region
      obtain ⟨wq, hwq⟩ : ∃ wq, wq = (wr.alloc (.cells #[.int .u8 (4 * (j : Int) + 4 + (s.length : Int) % 4)] 5)).drew := ⟨_, rfl⟩
      rw [← hwq]
      have hXq : Below wr.heap.size wr wq := by rw [hwq]; exact below_drew' ((Below.refl _ _).alloc (Nat.le_refl _) _)
      have HOq := Lib.hid (HO.out.on hXq)
      clear hwq hXq c0 c1 q0 hs5 hm5
      rw [← kid_low]
      have c0 := HOq.out.p0
      have HLE := Lib.hid (show (kidsTo lows j).length + 1 = (kidsTo lows (j + 1)).length by rw [HKS.out, List.length_append]; rfl)
      have hce : cellsC (kidsTo lows j) ++ [.string (S (kid j s).low), .int .i64 ((j : Int) + 2), .int .u64 0, .int .u32 0] = cellsC (kidsTo lows (j + 1)) := by rw [HKS.out, cellsC_kid]
      have HCE := Lib.hid hce
      clear hce
      generalize (kid j s).low = lw at *
      have c1 := HOq.out.q0
      go_wp2_with (first
        | (at_builtin; refine wpList_append_own_at _ rfl (.tmp 51) (.tmp 57) 26 rfl (w.heap.size + 1 + 1) 100 i0 (.agg #[.string ByteArray.empty, .int .i64 0, .int .u64 0, .int .u32 0]) 4 40 Try.underlying26 hi iz0 iz1 iz2 rfl (by decide) _ (kidsTo lows j).length _ rfl (HOq.out.own1.alloc _) ⟨wq.heap.size, 0, none⟩ 1 1 [.string (S lw), .int .i64 ((j : Int) + 2), .int .u64 0, .int .u32 0] rfl rfl (cell_four_new _ _ _ _ _ _) (kid_oneCell _ _ _ _) (by have := HKL.out; unfold maxLen; omega) (by have := HKL.out; omega) (by have := HOq.out.leB; rw [World.size_alloc]; omega) ?_; intro va wa hownva hgrowva _ _; rw [HLE.out, HCE.out] at hownva; obtain ⟨ava, yva, rfl⟩ := own_form hownva; obtain ⟨zva, fva⟩ := (HOq.out.on ((Below.refl _ _).alloc (Nat.le_refl _) _)).grow1 hgrowva; have HPva := Lib.hid ((HOq.out.on ((Below.refl _ _).alloc (Nat.le_refl _) _)).put1 hgrowva hownva (by have := HLE.out; omega)); have c1x := HPva.out.q0; have hqa := HPva.out.ltQ; clear hownva hgrowva)
        | (at_builtin; refine wpList_append_own_at _ rfl (.tmp 61) (.tmp 66) 32 rfl (w.heap.size + 1 + 1) 50 j0 (.agg #[.string ByteArray.empty, .int .i64 0, .int .u64 0, .int .u32 0]) 4 40 Try.underlying32 ji jz0 jz1 jz2 rfl (by decide) _ (kidsTo lows j).length _ rfl (HPva.out.own2.alloc _) ⟨wa.heap.size, 0, none⟩ 1 1 [.string (S lw), .int .i64 ((j : Int) + 2), .int .u64 0, .int .u32 0] rfl rfl (cell_four_at _ _ (World.size_setCell _ _ _) _ _ _ _ _) (kid_oneCell _ _ _ _) (by have := HKL.out; unfold maxLen; omega) (by have := HKL.out; omega) (by have := HPva.out.leB; rw [World.size_alloc]; omega) ?_; intro vb wb hownvb hgrowvb _ _; rw [HLE.out, HCE.out] at hownvb; obtain ⟨avb, yvb, rfl⟩ := own_form hownvb; obtain ⟨zvb, fvb⟩ := (HPva.out.on ((Below.refl _ _).alloc (Nat.le_refl _) _)).grow2 hgrowvb; have HPvb := Lib.hid ((HPva.out.on ((Below.refl _ _).alloc (Nat.le_refl _) _)).put2 hgrowvb hownvb (by have := HLE.out; omega)); clear hownvb hgrowvb))
      exact ⟨⟨j + 1, _, _, _, _, by go_num, by omega, HPvb.out⟩, by simp [intOf]; omega⟩
    · obtain rfl : j = m := by omega
      rw [show kidsTo lows j = kids lows by rw [← HM.out]; exact kidsTo_all lows] at hO HO
      have hm60 : tmin (keys.length : Int) 60 = ((min keys.length 60 : Nat) : Int) := tmin_nat _ 60
      generalize hM2 : min keys.length 60 = m2 at *
      have hmx2 : m2 ≤ keys.length := by omega
      have hm62 : m2 ≤ 60 := by omega
      have hcut2 := fun W => cut_strs bo keys.length d m2 hmx2 hd W
      have HM2 := Lib.hid hM2
      clear hM2 hO hB hcut hm hi iz0 iz1 iz2 ji jz0 jz1 jz2 hcv
      go_wp2_with fail
      go_loopw [76] (fun i wr => ∃ (j : Nat) (x : Option Addr) (y : Nat), i = .int .i64 j ∧ j ≤ m2 ∧ OfAt W0 wr (w.heap.size + 1 + 1) (w.heap.size + 1 + 1 + 1) (w.heap.size + 1 + 1 + 1 + 1 + 1) (kids lows) (kids lows) a1 y1 a2 y2 (.slice x (withAll (updsTo keys j)).length y) (.slice none 0 0) ∧ Hid (wr.ownsRow (w.heap.size + 1 + 1) 67 4 (.slice x (withAll (updsTo keys j)).length y) (withAll (updsTo keys j)).length (cellsU (withAll (updsTo keys j)))) ∧ Hid (0 < (withAll (updsTo keys j)).length ∨ Value.slice x (withAll (updsTo keys j)).length y = .slice none 0 0)) (fun i _ => m2 - (intOf i).toNat)
      case atStart => exact ⟨0, none, 0, rfl, Nat.zero_le _, HO.out, Lib.hid (World.ownsRow_nil _ _ _ _), Lib.hid (Or.inr rfl)⟩
      case round =>
        obtain ⟨k, x, y, rfl, hk, hO, HBU, HPS⟩ := hrel
        have hk0 : (0 : Int) ≤ (k : Int) := Int.natCast_nonneg _
        have HO := Lib.hid hO
        have hB := (HWB.out).trans (hO.below.mono (by omega))
        by_cases hkm : k < m2
        · have hk1 : (k : Int) < (m2 : Int) := by omega
          have hkl : k < keys.length := by omega
          obtain ⟨b0, off, rfl, hb, t0⟩ := HK.out.cell k hkl
          have q0 := (cell_below hB hb _).trans t0
          have hsb := hkl2 _ (List.getElem_mem hkl)
          have HUS := Lib.hid (updsTo_succ keys hkl)
          have HVP := Lib.hid (withAll_pos (updsTo keys k) (upd20 keys[k]) (updsTo_ok keys k))
          rw [← HUS.out] at HVP
          have hwn := fun W h => withOwn_next x _ y (updsTo keys k) (upd20 keys[k]) W rfl h (Nat.le_trans (updsTo_len keys k) (by omega)) (updsTo_ok keys k) (upd20_wf _)
          rw [← HUS.out] at hwn
          clear t0 hO hB
          generalize hU : withAll (updsTo keys k) = U at *
          generalize hV : withAll (updsTo keys (k + 1)) = V at *
          have HV := Lib.hid hV
          clear hU hV
          generalize keys[k] = s at *
          have hm9 : tmin (s.length : Int) 9 = ((min s.length 9 : Nat) : Int) := tmin_nat _ 9
          have hm3 : tmin (s.length : Int) 3 = ((min s.length 3 : Nat) : Int) := tmin_nat _ 3
          have hs9 := fun W => take_str s (min s.length 9) (Nat.min_le_left _ _) W
          have hs3 := fun W => take_str s (min s.length 3) (Nat.min_le_left _ _) W
          rw [take_min] at hs9 hs3
          have h3b : min s.length 3 ≤ s.length := Nat.min_le_left _ _
          have h9b : min s.length 9 ≤ s.length := Nat.min_le_left _ _
          generalize min s.length 9 = m9 at *
          generalize min s.length 3 = m3 at *
          unfold upd20 at hwn
          dsimp only at hwn
          have p1 := HO.out.p1
          have pf := HO.out.fp 1
          have hpl := HO.out.ltP
          cases he : (s.take 9).isEmpty with
          | true =>
            have hk20 : key20 s = [1] := by unfold key20; rw [if_pos he]
            rw [hk20] at hwn
            have HW := Lib.hid hwn
            clear hwn hk20
            go_wp2_with fail
            go_region_law (first | (go_simp; go_at_call 25; refine (HW.out _ ((BoxU.of_own HBU.out).kept (by go_grown) (Nat.le_refl _))).mono ?_; rintro e w3 ⟨⟨a', c', rfl, hb'⟩, hbl⟩; have hXl : Below wr.heap.size wr w3 := (below_drew' (Below.refl _ _)).trans hbl; have z1 := kept_cell hXl p1; have z2 := ((bcell hXl).2 (w.heap.size + 1 + 1 + 1) 1 hpl).trans pf; have HO3 := Lib.hid (HO.out.on hXl); have HB3 := Lib.hid (own_base hb' (show (w.heap.size + 1 + 1) ≤ _ by have := HO.out.leB; simp <;> omega)); clear hbl hXl hb'))
            all_goals
              go_wp2_with fail
              exact ⟨⟨k + 1, a', c', by go_num, by omega, by rw [HV.out]; exact HO3.out.putx1 _, Lib.hid (by rw [HV.out]; exact ownsRow_setCell_other (a := ⟨(w.heap.size + 1 + 1 + 1), 1, none⟩) HB3.out (own_boxU HB3.out (Or.inl HVP.out) HO3.out.p0) _), Lib.hid (Or.inl (by rw [HV.out]; exact HVP.out))⟩, by simp [intOf]; omega⟩
          | false =>
            have hk20 : key20 s = s.take 9 := by unfold key20; rw [if_neg (by rw [he]; simp)]
            rw [hk20] at hwn
            have HW := Lib.hid hwn
            clear hwn hk20
            go_wp2_with fail
            go_region_law (first | (go_simp; go_at_call 25; refine (HW.out _ ((BoxU.of_own HBU.out).kept (by go_grown) (Nat.le_refl _))).mono ?_; rintro e w3 ⟨⟨a', c', rfl, hb'⟩, hbl⟩; have hXl : Below wr.heap.size wr w3 := (below_drew' (Below.refl _ _)).trans hbl; have z1 := kept_cell hXl p1; have z2 := ((bcell hXl).2 (w.heap.size + 1 + 1 + 1) 1 hpl).trans pf; have HO3 := Lib.hid (HO.out.on hXl); have HB3 := Lib.hid (own_base hb' (show (w.heap.size + 1 + 1) ≤ _ by have := HO.out.leB; simp <;> omega)); clear hbl hXl hb'))
            all_goals
              go_wp2_with fail
              exact ⟨⟨k + 1, a', c', by go_num, by omega, by rw [HV.out]; exact HO3.out.putx1 _, Lib.hid (by rw [HV.out]; exact ownsRow_setCell_other (a := ⟨(w.heap.size + 1 + 1 + 1), 1, none⟩) HB3.out (own_boxU HB3.out (Or.inl HVP.out) HO3.out.p0) _), Lib.hid (Or.inl (by rw [HV.out]; exact HVP.out))⟩, by simp [intOf]; omega⟩
        · obtain rfl : k = m2 := by omega
          have hun : withAll (updsTo keys k) = withAll (upds keys) := by rw [← HM2.out, updsTo_all]
          have huk : ∀ u ∈ withAll (upds keys), u.delta = 0 ∧ u.Wf ∧ u.val.length ≤ 3 := fun u hu => by
            have h := withAll_puts (upds keys) (fun u hu => by obtain ⟨s, -, rfl⟩ := List.mem_map.1 hu; show (1 : Nat) ≠ 3; decide) (fun u hu => by obtain ⟨s, -, rfl⟩ := List.mem_map.1 hu; exact ⟨upd20_wf s, by show (s.take 3).length ≤ _; rw [List.length_take]; omega⟩) u hu
            obtain ⟨s, -, rfl⟩ := List.mem_map.1 h
            exact ⟨rfl, upd20_wf s, by show (s.take 3).length ≤ 3; rw [List.length_take]; omega⟩
          have hul : (withAll (upds keys)).length ≤ 60 := by
            have h := (withAll_ok (updsTo keys k) (updsTo_ok keys k)).2.2
            rw [hun] at h
            have := updsTo_len keys k
            omega
          rw [hun] at hO HO HBU HPS
          have HUN := Lib.hid hun
          generalize hUe : withAll (upds keys) = U at *
          have HUE := Lib.hid hUe
          clear hUe
          have HUK := Lib.hid huk
          have p1 := HO.out.p1
          have hlB := HO.out.leB
          clear hun huk hO hB
          go_wp2_with fail
          refine (thread (listU _ U _ (BoxU.of_own HBU.out) (by omega)) wr.heap.size wr (by go_grown) (by go_grown)).mono ?_
          rintro e w3 ⟨⟨v3, rfl, ho3⟩, hX3, -, -, hs3, hz3⟩
          obtain ⟨al, cl, rfl⟩ := own_form ho3
          have HL := Lib.hid ho3
          have HO3 := Lib.hid (HO.out.on hX3)
          have HB3 := Lib.hid (own_below HBU.out hX3)
          clear ho3 hX3 p1 hs3
          obtain ⟨BL, hBL⟩ : ∃ BL, BL = w3.heap.size := ⟨_, rfl⟩
          have hBL1 : BL ≤ w3.heap.size := by omega
          have hBL2 : wr.heap.size ≤ BL := by omega
          have hPL : (w.heap.size + 1 + 1 + 1) < BL := by rw [hBL]; exact HO3.out.ltP
          have hQL : (w.heap.size + 1 + 1 + 1 + 1 + 1) < BL := by rw [hBL]; exact HO3.out.ltQ
          have hLt := HL.out.lt
          have HLt := Lib.hid (fun g (e : (Value.slice al U.length cl).ownBlock = some g) => (show g < BL by rw [hBL]; exact (HL.out.lt g e).2))
          clear hBL hLt
          have HL3 := Lib.hid (own_base HL.out (show (w.heap.size + 1 + 1) ≤ _ by omega))
          clear HL HLt
          obtain ⟨v0, vi, vz0, vz1, vz2⟩ := info_parts infoV2
          go_wp2_with fail
          go_loopw [103] (fun i wr => ∃ (t : Nat) (a3 : Option Addr) (y3 : Nat), i = .int .i64 t ∧ t ≤ U.length ∧ OfAt W0 wr (w.heap.size + 1 + 1) (w.heap.size + 1 + 1 + 1) (w.heap.size + 1 + 1 + 1 + 1 + 1) (kids lows) (kids lows) a1 y1 a2 y2 (.slice x U.length y) (.slice a3 t y3) ∧ Hid (wr.ownsRow (w.heap.size + 1 + 1) 67 4 (.slice x U.length y) U.length (cellsU U)) ∧ Hid (wr.ownsRow (w.heap.size + 1 + 1) 67 4 (.slice al U.length cl) U.length (cellsU U)) ∧ Hid (wr.ownsRow BL 113 4 (.slice a3 t y3) t (cellsU (U.take t))) ∧ BL ≤ wr.heap.size) (fun i _ => U.length - (intOf i).toNat)
          case atStart => exact ⟨0, none, 0, rfl, Nat.zero_le _, HO3.out, HB3, HL3, Lib.hid (World.ownsRow_nil _ _ _ _), hBL1⟩
          case round =>
            obtain ⟨t, a3, y3, rfl, ht, hO, HB, HL, HX, hBL3⟩ := hrel
            have ht0 : (0 : Int) ≤ (t : Int) := Int.natCast_nonneg _
            have HO := Lib.hid hO
            clear hO
            by_cases htl : t < U.length
            · have ht1 : (t : Int) < (U.length : Int) := by omega
              obtain ⟨b0, off, rfl, hb, q0, q1, q2, q3⟩ := (slU_row HL.out).2.cells4 t htl
              have HT := Lib.hid (show cellsU (U.take t) ++ [.int .u8 U[t].kind, .string (S U[t].key), .string (S U[t].val), .int .u64 0] = cellsU (U.take (t + 1)) by
                rw [List.take_succ_eq_append_getElem htl, cellsU_snoc, (HUK.out _ (List.getElem_mem htl)).1]; rfl)
              generalize U[t] = u at *
              have c1 := HO.out.q1
              have cf := HO.out.fq 1
              have hql := HO.out.ltQ
              have c1' := cell_past (.cells #[.int .u8 u.kind, .string (S u.key), .string (S u.val), .int .u64 u.delta] 67) c1
              have HPR := Lib.hid (show (Value.slice a3 t y3).ownBlock ≠ some (w.heap.size + 1 + 1 + 1) from fun e => by have := (HX.out.lt _ e).1; omega)
              have HQR := Lib.hid (show (Value.slice a3 t y3).ownBlock ≠ some (w.heap.size + 1 + 1 + 1 + 1 + 1) from fun e => by have := (HX.out.lt _ e).1; omega)
              have hUpos : 0 < U.length := by omega
              have htk : 0 < (U.take (t + 1)).length := by rw [List.length_take]; omega
              go_wp2_with (at_builtin; go_must (refine wpList_append_own_at _ rfl (.tmp 108) (.tmp 116) 33 rfl BL 113 v0 (.agg #[.int .u8 0, .string ByteArray.empty, .string ByteArray.empty, .int .u64 0]) 4 48 Try.underlying33 vi vz0 vz1 vz2 rfl (by decide) _ t _ rfl ((HX.out.alloc _).alloc _) ⟨wr.heap.size + 1, 0, none⟩ 1 1 [.int .u8 u.kind, .string (S u.key), .string (S u.val), .int .u64 0] rfl rfl (cell_four_at _ _ (by simp) _ _ _ _ _) (four_oneCell _ _ _ _) (by unfold maxLen; omega) (by omega) (by rw [World.size_alloc, World.size_alloc]; omega) ?_; intro vc wz hownvc hgrowvc _ hatvc; rw [HT.out] at hownvc; obtain ⟨ac, yc, rfl⟩ := own_form hownvc; have HOz := Lib.hid ((HO.out.on (((Below.refl _ _).alloc (Nat.le_refl _) _).alloc (by simp) _)).kept hgrowvc (fun e => HPR.out e.symm) (fun e => HQR.out e.symm) (own_kinds HO.out.own1 HX.out (by decide)) (own_kinds HO.out.own2 HX.out (by decide)) (fun k e => by have := (HX.out.lt k e).1; omega)); have HBz := Lib.hid (((HB.out.alloc _).alloc _).kept hgrowvc (own_kinds HB.out HX.out (by decide))); have HLz := Lib.hid (((HL.out.alloc _).alloc _).kept hgrowvc (own_kinds HL.out HX.out (by decide))); have HXz := Lib.hid hownvc; have hBLz : BL ≤ wz.heap.size := Nat.le_trans (by rw [World.size_alloc, World.size_alloc]; omega) hgrowvc.size; have z1 := HOz.out.q1; have z2 := HOz.out.fq 1; clear hownvc hgrowvc hatvc))
              exact ⟨⟨t + 1, ac, yc, by go_num, by omega, HOz.out.putx2 _, Lib.hid (ownsRow_setCell_other (a := ⟨(w.heap.size + 1 + 1 + 1 + 1 + 1), 1, none⟩) HBz.out (own_boxU HBz.out (Or.inl hUpos) HOz.out.q0) _), Lib.hid (ownsRow_setCell_other (a := ⟨(w.heap.size + 1 + 1 + 1 + 1 + 1), 1, none⟩) HLz.out (own_boxU HLz.out (Or.inl hUpos) HOz.out.q0) _), Lib.hid (ownsRow_setCell_other (a := ⟨(w.heap.size + 1 + 1 + 1 + 1 + 1), 1, none⟩) HXz.out (own_boxU HXz.out (Or.inl htk) HOz.out.q0) _), by rw [World.size_setCell]; exact hBLz⟩, by simp [intOf]; omega⟩
            · obtain rfl : t = U.length := by omega
              have p0 := HO.out.p0
              have p1 := HO.out.p1
              have q0 := HO.out.q0
              have q1 := HO.out.q1
              have hBW := HO.out.below
              obtain ⟨e0, e1, f0, f1⟩ := NilAt.on' HS2.out.1 hBW (by omega)
              obtain ⟨e2, e3, f2, f3⟩ := NilAt.on' HS2.out.2 hBW (by omega)
              have HZ := Lib.hid (And.intro (slC_row HO.out.own1).2 (And.intro (slC_row HO.out.own2).2 (And.intro (slU_row HB.out).2 (slU_row HX.out).2)))
              rw [List.take_length] at HZ
              have HBB := Lib.hid (HWB.out.trans (hBW.mono (by omega)))
              clear hBW
              go_wp2_with fail
              have hne1 : ¬ w.heap.size = w.heap.size + 1 + 1 + 1 := by omega
              have hne2 : ¬ w.heap.size = w.heap.size + 1 + 1 + 1 + 1 + 1 := by omega
              have hne3 : ¬ w.heap.size + 1 = w.heap.size + 1 + 1 + 1 := by omega
              have hne4 : ¬ w.heap.size + 1 = w.heap.size + 1 + 1 + 1 + 1 + 1 := by omega
              go_region
              all_goals
                go_wp2_with fail
                have t1 : (wr.setCell ⟨w.heap.size, 0, none⟩ (.slice a1 (kids lows).length y1)).cell? ⟨w.heap.size, 1, none⟩ = some (.slice none 0 0) := (World.cell?_setCell_other _ _ _ _ (addr_ne (Or.inr (by decide)))).trans e1
                have t2 : ((wr.setCell ⟨w.heap.size, 0, none⟩ (.slice a1 (kids lows).length y1)).setCell ⟨w.heap.size, 1, none⟩ (.slice x U.length y)).cell? ⟨w.heap.size + 1, 0, none⟩ = some (.slice none 0 0) := (World.cell?_setCell_other _ _ _ _ (addr_ne (Or.inl (by omega)))).trans ((World.cell?_setCell_other _ _ _ _ (addr_ne (Or.inl (by omega)))).trans e2)
                have t3 : (((wr.setCell ⟨w.heap.size, 0, none⟩ (.slice a1 (kids lows).length y1)).setCell ⟨w.heap.size, 1, none⟩ (.slice x U.length y)).setCell ⟨w.heap.size + 1, 0, none⟩ (.slice a2 (kids lows).length y2)).cell? ⟨w.heap.size + 1, 1, none⟩ = some (.slice none 0 0) := (World.cell?_setCell_other _ _ _ _ (addr_ne (Or.inr (by decide)))).trans ((World.cell?_setCell_other _ _ _ _ (addr_ne (Or.inl (by omega)))).trans ((World.cell?_setCell_other _ _ _ _ (addr_ne (Or.inl (by omega)))).trans e3))
                have hE := (((HBB.out.setCell (p := ⟨w.heap.size, 0, none⟩) (Nat.le_refl _) (.slice a1 (kids lows).length y1)).setCell (p := ⟨w.heap.size, 1, none⟩) (Nat.le_refl _) (.slice x U.length y)).setCell (p := ⟨w.heap.size + 1, 0, none⟩) (by simp) (.slice a2 (kids lows).length y2)).setCell (p := ⟨w.heap.size + 1, 1, none⟩) (by simp) (.slice a3 U.length y3)
                have hC := (((HZ.out.1.setAt e0 (.slice a1 (kids lows).length y1)).setAt t1 (.slice x U.length y)).setAt t2 (.slice a2 (kids lows).length y2)).setAt t3 (.slice a3 U.length y3)
                have hD := (((HZ.out.2.1.setAt e0 (.slice a1 (kids lows).length y1)).setAt t1 (.slice x U.length y)).setAt t2 (.slice a2 (kids lows).length y2)).setAt t3 (.slice a3 U.length y3)
                have hI := (((HZ.out.2.2.1.setAt e0 (.slice a1 (kids lows).length y1)).setAt t1 (.slice x U.length y)).setAt t2 (.slice a2 (kids lows).length y2)).setAt t3 (.slice a3 U.length y3)
                have hJ := (((HZ.out.2.2.2.setAt e0 (.slice a1 (kids lows).length y1)).setAt t1 (.slice x U.length y)).setAt t2 (.slice a2 (kids lows).length y2)).setAt t3 (.slice a3 U.length y3)
                refine bodyPost_ret (v := .tuple #[.agg #[.slice a1 (kids lows).length y1, .slice x U.length y], .agg #[.slice a2 (kids lows).length y2, .slice a3 U.length y3]]) ?_ rfl ⟨⟨.agg #[.slice a1 (kids lows).length y1, .slice x U.length y], .agg #[.slice a2 (kids lows).length y2, .slice a3 U.length y3], rfl, ?_, ?_⟩, below_drew' hE⟩
                · simp [results, Try.results29, go_sem, e0, e1, e2, e3]
                · rw [HUE.out]; exact (NodeAt.mk' hC hI).kept (below_drew' (Below.refl _ _)) (Nat.le_refl _)
                · rw [HUE.out]; exact (NodeAt.mk' hD hJ).kept (below_drew' (Below.refl _ _)) (Nat.le_refl _)

end Go.Proofs.Ytlmlmkeomlehmaa
