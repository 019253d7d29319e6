/-
  The walks of law 20's spread, and of flush.Full and Wide.
-/
import Derived.Test.YtlmlmkeomlehmaaOfb
namespace Go.Proofs.Ytlmlmkeomlehmaa
open Go.RowKit
attribute [local go_sem ↓] Go.wp_at_zero Go.wp_at_succ

def strsV (l : List (List UInt8)) : List Value := l.map fun s => .string (S s)
theorem infoS : (Try.prog.info? 9).map (fun i => (i.zero, i.size, i.bytes)) = some (some (.string ByteArray.empty), 1, 16) := by kernel_rfl
theorem cell_one_at (w : World) (g : Nat) (hg : w.heap.size = g) (x : Value) (t : TypeId) : ∀ j u, [x][j]? = some u → (w.alloc (.cells #[x] t)).cell? ((⟨g, 0, none⟩ : Addr).add j) = some u := by
  subst hg; exact cell_one_new _ _ _
/-- The texts that spread makes of bytes. -/
def sprd (i : Nat) (x : Int) : List UInt8 := [UInt8.ofNat x.toNat, UInt8.ofNat i]
def sprTo (l : List Int) (j : Nat) : List (List UInt8) := (l.take j).mapIdx sprd
theorem sprTo_len (l : List Int) {j : Nat} (h : j ≤ l.length) : (sprTo l j).length = j := by simp [sprTo]; omega
theorem sprTo_succ (l : List Int) {j : Nat} (h : j < l.length) : sprTo l (j + 1) = sprTo l j ++ [sprd j l[j]] := by
  unfold sprTo
  rw [List.take_succ_eq_append_getElem h, List.mapIdx_append]
  simp [Nat.min_eq_left (Nat.le_of_lt h)]
theorem strsV_snoc (l : List (List UInt8)) (s : List UInt8) : strsV (l ++ [s]) = strsV l ++ [.string (S s)] := by simp [strsV]
theorem strAt_row {w : World} {B n : Nat} {v : Value} {l : List (List UInt8)} (h : w.ownsRow B 9 1 v n (strsV l)) : ∃ a c, v = .slice a l.length c ∧ StrAt w a l ∧ l.length ≤ c ∧ l.length = n := by
  have hn : l.length = n := by have := h.1; simp [strsV] at this; exact this
  subst hn
  rcases ownsRow_open h with ⟨rfl, h0, -⟩ | ⟨g, cap, cur, rfl, -, hr, h3, h4, h5, h6⟩
  · obtain rfl := List.eq_nil_of_length_eq_zero h0
    exact ⟨none, 0, rfl, Or.inl rfl, Nat.le_refl _, rfl⟩
  · refine ⟨_, cap, rfl, Or.inr ⟨g, 0, rfl, hr.lt, fun i hi j x hx => ?_⟩, h3, rfl⟩
    have hj : j = 0 := by have := (List.getElem?_eq_some_iff.1 hx).1; simp at this; exact this
    subst hj
    rw [hr.cell, Nat.zero_add, Nat.mul_one, Nat.add_zero]
    have e : (cur.take (l.length * 1))[i]? = some x := by rw [h6]; simp only [strsV, List.getElem?_map, List.getElem?_eq_getElem hi]; simpa using hx
    rw [List.getElem?_take] at e
    split at e
    · exact e
    · simp at e

set_option maxRecDepth 100000 in
set_option maxHeartbeats 4000000 in
theorem spread_any (ao : Option Addr) (c : Nat) (l : List Int) (w : World) (hs : SlAt (fun x : Int => [Value.int .u8 x]) 1 w ao l) (hl : l.length ≤ 100) (hx : ∀ x ∈ l, 0 ≤ x ∧ x < 256) :
    Calls Try.prog 28 #[.slice ao l.length c] w fun e w' => (∃ v, e = .returned v ∧ w'.ownsRow w.heap.size 9 1 v l.length (strsV (sprTo l l.length))) ∧ Below w.heap.size w w' := by
  obtain ⟨i0, hi, iz0, iz1, iz2⟩ := info_parts infoS
  have hcv := fun w n c => run_str2 (P := Try.prog) 54 9 5 Try.underlying54 Try.underlying5 Try.underlying9 w n c
  go_enter Try.func28, Try.ntmps28
  go_wp2_with fail
  go_loopw [8, 3] (fun i v wr => ∃ j : Nat, i = .int .i64 j ∧ j ≤ l.length ∧ Hid (wr.ownsRow w.heap.size 9 1 v j (strsV (sprTo l j))) ∧ Below w.heap.size w wr) (fun i _ _ => l.length - (intOf i).toNat)
  case atStart => exact ⟨0, rfl, Nat.zero_le _, Lib.hid (World.ownsRow_nil _ _ _ _), Below.refl _ _⟩
  case round =>
    obtain ⟨j, rfl, hj, HX, hB⟩ := hrel
    have hj0 : (0 : Int) ≤ (j : Int) := Int.natCast_nonneg _
    by_cases hjl : j < l.length
    · have hj1 : (j : Int) < (l.length : Int) := by omega
      obtain ⟨b0, off, rfl, hb, hc⟩ := hs.at (by omega)
      have t0 := hc j hjl 0 _ rfl
      rw [Nat.mul_one, Nat.add_zero] at t0
      have q0 := (cell_below hB hb _).trans t0
      obtain ⟨hx0, hx1⟩ := hx _ (List.getElem_mem hjl)
      have HT := Lib.hid (show strsV (sprTo l j) ++ [.string (S (sprd j l[j]))] = strsV (sprTo l (j + 1)) by rw [sprTo_succ l hjl, strsV_snoc])
      clear t0 hc
      unfold sprd at HT
      generalize l[j] = z at *
      have hsz := hB.size
      go_wp2_with (at_builtin; go_must (refine wpList_append_own_at _ rfl (.tmp 13) (.tmp 19) 55 rfl w.heap.size 9 i0 (.string ByteArray.empty) 1 16 Try.underlying55 hi iz0 iz1 iz2 rfl (by decide) _ j _ rfl ((HX.out.alloc _).alloc _) ⟨wr.heap.size + 1, 0, none⟩ 1 1 [.string (S [UInt8.ofNat z.toNat, UInt8.ofNat j])] rfl rfl (cell_one_at _ _ (by simp) _ _) (by intro u hu; simp at hu; subst hu; rfl) (by unfold maxLen; omega) (by omega) (by rw [World.size_alloc, World.size_alloc]; omega) ?_; intro v' w1 hown1 hg1 _ _; rw [HT.out] at hown1))
      exact ⟨⟨j + 1, by go_num, by omega, Lib.hid hown1, below_grown ((hB.alloc hsz _).alloc (by rw [World.size_alloc]; omega) _) hg1 (fun k e => (HX.out.lt k e).1) (by rw [World.size_alloc, World.size_alloc]; omega)⟩, by simp [intOf]; omega⟩
    · obtain rfl : j = l.length := by omega
      go_wp2_with fail
      go_ret
      exact ⟨⟨_, rfl, HX.out⟩, hB⟩

set_option maxRecDepth 100000 in
set_option maxHeartbeats 4000000 in
theorem wide_any (v : Value) (cs : List Chd) (us : List Upd) (f b l : Int) (w : World) (h : NodeAt w v cs us) :
    Calls Try.prog 41 #[v, .agg #[.int .i64 f, .int .i64 b, .int .i64 l]] w fun e w' => e = .returned (.bool (decide (f < (cs.length : Int)))) ∧ Below w.heap.size w w' := by
  obtain ⟨a, b', x, y, rfl, h1, h2⟩ := h
  go_enter Try.func41, Try.ntmps41
  go_wp2_with fail
  go_ret
  exact ⟨rfl, by go_grown⟩
set_option maxRecDepth 100000 in
set_option maxHeartbeats 4000000 in
theorem full_any (v : Value) (cs : List Chd) (us : List Upd) (f b l : Int) (w : World) (h : NodeAt w v cs us) :
    Calls Try.prog 40 #[v, .agg #[.int .i64 f, .int .i64 b, .int .i64 l]] w fun e w' => e = .returned (.bool (decide (b < (us.length : Int)))) ∧ Below w.heap.size w w' := by
  obtain ⟨a, b', x, y, rfl, h1, h2⟩ := h
  have HU := Lib.hid h2
  clear h1 h2
  go_enter Try.func40, Try.ntmps40
  go_wp2_with fail
  obtain ⟨W, hW⟩ : ∃ W, W = (w.alloc (.cells #[.slice a cs.length x, .slice b' us.length y] 31)).alloc (.cells #[.int .i64 f, .int .i64 b, .int .i64 l] 92) := ⟨_, rfl⟩
  rw [← hW]
  have c1 : W.cell? ⟨w.heap.size, 1, none⟩ = some (.slice b' us.length y) := by rw [hW]; exact cell_past _ (by simp)
  have c2 : W.cell? ⟨w.heap.size + 1, 1, none⟩ = some (.int .i64 b) := by rw [hW]; simp
  have hWB : Below w.heap.size w W := by rw [hW]; go_grown
  have HW := Lib.hid (HU.out.kept hWB (Nat.le_refl _))
  clear hW
  refine WQ.region (C := fun w' => Below W.heap.size W w') (by kernel_rfl) (by kernel_rfl) (below_drew' (Below.refl _ _)) ?_
  refine WQ.want (by rfl) (fun K hK => ?_)
  refine ⟨.pointer (some ⟨w.heap.size, 1, none⟩), fun w' hw' => ?_, hK _ ?_⟩
  · have hq' := hw'
    go_simp
  clear hK K
  (try simp only [Act.put, List.setIfInBounds_toArray, List.set_cons_zero, List.set_cons_succ])
  refine WQ.want (by rfl) (fun K hK => ?_)
  refine ⟨.agg #[.slice b' us.length y], fun w' hw' => ?_, hK _ ?_⟩
  · have hq' := hw'
    have z0 := kept_cell hw' c1; have z1 := kept_cell hw' c2; go_simp
  clear hK K
  (try simp only [Act.put, List.setIfInBounds_toArray, List.set_cons_zero, List.set_cons_succ])
  refine WQ.want (by rfl) (fun K hK => ?_)
  refine ⟨.int .i64 (us.length : Nat), fun w' hw' => ?_, hK _ ?_⟩
  · have hq' := hw'
    go_simp
    go_at_call 26
    refine (lenU _ us _ (BoxU.mk ⟨_, rfl, HW.out.kept hq' (Nat.le_refl _)⟩)).mono ?_
    rintro e w6 ⟨he, hb6⟩
    exact ⟨he, hq'.trans (hb6.mono hq'.size)⟩
  clear hK K
  (try simp only [Act.put, List.setIfInBounds_toArray, List.set_cons_zero, List.set_cons_succ])
  refine WQ.want (by rfl) (fun K hK => ?_)
  refine ⟨.pointer (some ⟨w.heap.size + 1, 1, none⟩), fun w' hw' => ?_, hK _ ?_⟩
  · have hq' := hw'
    go_simp
  clear hK K
  (try simp only [Act.put, List.setIfInBounds_toArray, List.set_cons_zero, List.set_cons_succ])
  refine WQ.want (by rfl) (fun K hK => ?_)
  refine ⟨.int .i64 b, fun w' hw' => ?_, hK _ ?_⟩
  · have hq' := hw'
    have z0 := kept_cell hw' c1; have z1 := kept_cell hw' c2; go_simp
  clear hK K
  (try simp only [Act.put, List.setIfInBounds_toArray, List.set_cons_zero, List.set_cons_succ])
  refine WQ.want (by rfl) (fun K hK => ?_)
  refine ⟨.bool (decide (b < (us.length : Int))), fun w' hw' => ?_, hK _ ?_⟩
  · have hq' := hw'
    go_simp
  clear hK K
  (try simp only [Act.put, List.setIfInBounds_toArray, List.set_cons_zero, List.set_cons_succ])
  refine WQ.want (by rfl) (fun K hK => ?_)
  refine ⟨.bool (decide (b < (us.length : Int))), fun w' hw' => ?_, hK _ ?_⟩
  · have hq' := hw'
    go_simp
  clear hK K
  (try simp only [Act.put, List.setIfInBounds_toArray, List.set_cons_zero, List.set_cons_succ])
  refine WQ.done ?_
  rintro w1 hX1
  go_wp2_with fail
  go_ret
  exact ⟨rfl, hWB.trans (hX1.mono hWB.size)⟩

end Go.Proofs.Ytlmlmkeomlehmaa
