/-
  The walk of the document's Parse of a table.
-/
import Derived.Test.YtblleinahlaohaaBsm
namespace Go.Proofs.Ytblleinahlaohaa
open Go.RowKit Go.Shelf
set_option linter.unusedVariables false
attribute [local go_sem ↓] Go.wp_at_zero Go.wp_at_succ

/-- Bytes of a table of so many spares at most. -/
def FormT (sp : Int) (s : List UInt8) (zs : List Int) : Prop := s = textL zs ∧ (∀ z ∈ zs, 0 ≤ z ∧ z < 65536) ∧ (zs.length : Int) ≤ sp
/-- .. and of a device of nb blocks. -/
def GoodT (nb sp : Int) (s : List UInt8) (zs : List Int) : Prop := s = textL zs ∧ (∀ z ∈ zs, 0 ≤ z ∧ z < nb) ∧ (zs.length : Int) ≤ sp
theorem textL_len (zs : List Int) : (textL zs).length = 8 + 2 * zs.length := by unfold textL; rw [List.length_append, le_length, tailL_len]
theorem le_inj {k a b : Nat} (ha : a < 256 ^ k) (hb : b < 256 ^ k) (h : le a k = le b k) : a = b := by
  have h1 := numL_le k a
  have h2 := numL_le k b
  rw [h, h2] at h1
  rw [Nat.mod_eq_of_lt ha, Nat.mod_eq_of_lt hb] at h1
  exact h1.symm
theorem tailL_inj : ∀ {a b : List Int}, (∀ z ∈ a, 0 ≤ z ∧ z < 65536) → (∀ z ∈ b, 0 ≤ z ∧ z < 65536) → tailL a = tailL b → a = b
  | [], [], _, _, _ => rfl
  | [], z :: b, _, _, h => by have := congrArg List.length h; rw [tailL_len, tailL_len] at this; simp at this
  | z :: a, [], _, _, h => by have := congrArg List.length h; rw [tailL_len, tailL_len] at this; simp at this
  | x :: a, y :: b, ha, hb, h => by
    have e1 : tailL (x :: a) = le x.toNat 2 ++ tailL a := by simp [tailL]
    have e2 : tailL (y :: b) = le y.toNat 2 ++ tailL b := by simp [tailL]
    rw [e1, e2] at h
    obtain ⟨h1, h2⟩ := List.append_inj h (by rw [le_length, le_length])
    have hx := ha x (by simp)
    have hy := hb y (by simp)
    have h3 : x.toNat = y.toNat := le_inj (k := 2) (by show x.toNat < 65536; omega) (by show y.toNat < 65536; omega) h1
    have h4 : x = y := by omega
    rw [h4, tailL_inj (fun z hz => ha z (by simp [hz])) (fun z hz => hb z (by simp [hz])) h2]
theorem FormT.inj {sp sp' : Int} {s : List UInt8} {a b : List Int} (h : FormT sp s a) (k : FormT sp' s b) : a = b := by
  have e : textL a = textL b := h.1.symm.trans k.1
  unfold textL at e
  exact tailL_inj h.2.1 k.2.1 (List.append_inj e (by rw [le_length, le_length])).2
theorem GoodT.form {nb sp : Int} {s : List UInt8} {zs : List Int} (h : GoodT nb sp s zs) (hn : nb ≤ 4096) : FormT sp s zs :=
  ⟨h.1, fun z hz => by have := h.2.1 z hz; omega, h.2.2⟩
theorem tail_exists : ∀ (n : Nat) (s : List UInt8), s.length = 2 * n → ∃ zs : List Int, zs.length = n ∧ (∀ z ∈ zs, 0 ≤ z ∧ z < 65536) ∧ s = tailL zs
  | 0, s, h => ⟨[], rfl, fun z hz => by simp at hz, by rw [List.eq_nil_of_length_eq_zero (by omega : s.length = 0)]; rfl⟩
  | n + 1, s, h => by
    obtain ⟨v, r, hf, rfl⟩ := as_num1 2 s (by omega)
    have e : wtext [(2, v)] = le v 2 := by simp [wtext]
    rw [e] at h ⊢
    rw [List.length_append, le_length] at h
    obtain ⟨zs, h1, h2, rfl⟩ := tail_exists n r (by omega)
    have hv : v < 65536 := hf (2, v) (by simp)
    refine ⟨(v : Int) :: zs, by simp [h1], fun z hz => ?_, by simp [tailL]⟩
    rcases List.mem_cons.1 hz with rfl | hz
    · omega
    · exact h2 z hz
/-- What is of the form. -/
theorem form_of {sp : Int} {s : List UInt8} (h8 : 8 ≤ s.length) (h2 : s.length % 2 = 0) (hn : numL (s.take 8) = (s.length - 8) / 2) (hc : (((s.length - 8) / 2 : Nat) : Int) ≤ sp) : ∃ zs, FormT sp s zs := by
  obtain ⟨zs, k1, k2, k3⟩ := tail_exists ((s.length - 8) / 2) (s.drop 8) (by rw [List.length_drop]; omega)
  refine ⟨zs, ?_, k2, by omega⟩
  have e := le_numL (s.take 8)
  rw [hn, List.length_take, show min 8 s.length = 8 by omega, ← k1] at e
  unfold textL
  rw [e, ← k3, List.take_append_drop]
theorem sub_str (l : List UInt8) (i j : Nat) (h : i ≤ j) (hj : j ≤ l.length) (w : World) : (Instr.slice 9 (.string (S l)) (some (.int .i64 (i : Int))) (some (.int .i64 (j : Int))) none).run Try.prog w = .ok (.string (S ((l.drop i).take (j - i)))) w := by
  rw [run_slice_string_if (P := Try.prog) w 9 (S l) .i64 .i64 (i : Int) (j : Int) Try.underlying9]
  rw [if_pos (by rw [S_size]; omega)]
  simp [S_extract]
  intro hc
  exfalso
  omega

set_option maxRecDepth 100000 in
set_option maxHeartbeats 4000000 in
theorem refParse_arg (nb sp : Int) (s : List UInt8) (w : World) (hm : ¬ MayBe nb sp) :
    Calls Try.prog 19 #[.string (S s), .int .i64 nb, .int .i64 sp] w fun e w' => e = .returned (.tuple #[.slice none 0 0, .int .i64 2]) ∧ Below w.heap.size w w' := by
  have hmd : decide (MayBe nb sp) = false := decide_eq_false hm
  go_enter Try.func19, Try.ntmps19
  go_wp2_with fail
  refine (may_any nb sp w).mono ?_
  rintro e w1 ⟨rfl, hB1⟩
  rw [hmd]
  go_wp2_with fail
  go_ret2
  exact ⟨rfl, hB1⟩

set_option maxRecDepth 100000 in
set_option maxHeartbeats 4000000 in
theorem refParse_form (nb sp : Int) (s : List UInt8) (w : World) (hm : MayBe nb sp) (hl : s.length ≤ 1000) (hno : ¬ ∃ zs, FormT sp s zs) :
    Calls Try.prog 19 #[.string (S s), .int .i64 nb, .int .i64 sp] w fun e w' => e = .returned (.tuple #[.slice none 0 0, .int .i64 4]) ∧ Below w.heap.size w w' := by
  have hmd : decide (MayBe nb sp) = true := decide_eq_true hm
  have hs0 := hm.2.2.1
  have hs1 := hm.2.2.2
  obtain ⟨L, hL⟩ : ∃ L, L = s.length := ⟨_, rfl⟩
  have HL := Lib.hid hL
  rw [← hL] at hl
  have hsz : (S s).size = L := by rw [S_size, hL]
  clear hL
  by_cases h8 : L < 8
  · have h8' : (L : Int) < 8 := by omega
    go_enter Try.func19, Try.ntmps19
    go_wp2_with fail
    refine (may_any nb sp w).mono ?_
    rintro e w1 ⟨rfl, hB1⟩
    rw [hmd]
    go_wp2_with fail
    go_ret2
    exact ⟨rfl, hB1⟩
  · have h8' : ¬ (L : Int) < 8 := by omega
    by_cases h2 : L % 2 = 0
    · obtain ⟨q, hq⟩ : ∃ q, L = 8 + 2 * q := ⟨(L - 8) / 2, by omega⟩
      subst hq
      by_cases hc : ((q : Nat) : Int) ≤ sp
      · have hne : numL (s.take 8) ≠ q := fun e => hno (form_of (by rw [← HL.out]; omega) (by rw [← HL.out]; omega) (by rw [← HL.out, e]; omega) (by rw [← HL.out]; omega))
        go_enter Try.func19, Try.ntmps19
        go_wp2_with fail
        refine (may_any nb sp w).mono ?_
        rintro e w1 ⟨rfl, hB1⟩
        rw [hmd]
        go_wp2_with fail
        obtain ⟨N, hN⟩ : ∃ N, N = numL (s.take 8) := ⟨_, rfl⟩
        rw [← hN] at hne
        have hne' : ¬ ((N : Nat) : Int) = ((q : Nat) : Int) := by omega
        have HN := Lib.hid hN
        clear hN
        refine (refGet_any (s.take 8) (by rw [List.length_take]; omega) w1).mono ?_
        rintro e w2 ⟨rfl, hB2⟩
        rw [← HN.out]
        have HL2 := Lib.hid (hB1.trans (hB2.mono hB1.size))
        have hwq : IntKind.u64.wrap ((q : Nat) : Int) = ((q : Nat) : Int) := by rw [IntKind.wrap_u64]; omega
        clear hB1 hB2
        go_wp2_with fail
        go_ret2
        exact ⟨rfl, HL2.out⟩
      · go_enter Try.func19, Try.ntmps19
        go_wp2_with fail
        refine (may_any nb sp w).mono ?_
        rintro e w1 ⟨rfl, hB1⟩
        rw [hmd]
        go_wp2_with fail
        go_ret2
        exact ⟨rfl, hB1⟩
    · go_enter Try.func19, Try.ntmps19
      go_wp2_with fail
      refine (may_any nb sp w).mono ?_
      rintro e w1 ⟨rfl, hB1⟩
      rw [hmd]
      go_wp2_with fail
      go_ret2
      exact ⟨rfl, hB1⟩

theorem tailL_app (a b : List Int) : tailL (a ++ b) = tailL a ++ tailL b := by unfold tailL; rw [List.flatMap_append]
theorem textL_pick (zs : List Int) (j : Nat) (hj : j < zs.length) : ((textL zs).drop (8 + 2 * j)).take 2 = le (zs[j]).toNat 2 := by
  unfold textL
  have e2 : tailL zs = tailL (zs.take j) ++ (le (zs[j]).toNat 2 ++ tailL (zs.drop (j + 1))) := by
    rw [← tailL_cons zs j hj, ← tailL_app, List.take_append_drop]
  rw [e2, ← List.append_assoc, List.drop_left' (by rw [List.length_append, le_length, tailL_len, List.length_take]; omega), List.take_left' (by rw [le_length])]

set_option maxRecDepth 100000 in
set_option maxHeartbeats 8000000 in
theorem refParse_text (nb sp : Int) (s : List UInt8) (zs : List Int) (w : World) (hm : MayBe nb sp) (hf : FormT sp s zs) :
    Calls Try.prog 19 #[.string (S s), .int .i64 nb, .int .i64 sp] w fun e w' => ((∃ v', e = .returned (.tuple #[v', .int .i64 0]) ∧ Ints w'.heap.size w' v' zs ∧ GoodT nb sp s zs) ∨ (e = .returned (.tuple #[.slice none 0 0, .int .i64 4]) ∧ ¬ GoodT nb sp s zs)) ∧ Below w.heap.size w w' := by
  obtain ⟨i0, hi, hz0, hz1, hz2⟩ := info_parts infoI
  have hmd : decide (MayBe nb sp) = true := decide_eq_true hm
  have hn0 := hm.1
  have hn1 := hm.2.1
  have hs0 := hm.2.2.1
  have hs1 := hm.2.2.2
  obtain ⟨hfs, hfz, hfl⟩ := hf
  subst hfs
  have HZ := Lib.hid hfz
  obtain ⟨q, hq⟩ : ∃ q, q = zs.length := ⟨_, rfl⟩
  have HQ := Lib.hid hq
  rw [← hq] at hfl
  have hsz : (S (textL zs)).size = 8 + 2 * q := by rw [S_size, textL_len, hq]
  have hq32 : q ≤ 32 := by omega
  have hlen : 8 + 2 * q = (textL zs).length := by rw [textL_len, hq]
  have HLN := Lib.hid hlen
  have h8 : ¬ (8 + 2 * (q : Int)) < 8 := by omega
  have hwq : IntKind.u64.wrap ((q : Nat) : Int) = ((q : Nat) : Int) := by rw [IntKind.wrap_u64]; omega
  have hN : numL ((textL zs).take 8) = q := by
    unfold textL
    rw [List.take_left' (by rw [le_length]), numL_le, ← hq]
    exact Nat.mod_eq_of_lt (by have : (256 : Nat) ^ 8 = 18446744073709551616 := by decide
                               omega)
  have HN := Lib.hid hN
  have HT := Lib.hid (fun j (hj : j < zs.length) => textL_pick zs j hj)
  have hqe : (8 + 2 * (q : Int) - 8) / 2 = (q : Int) := by omega
  clear hq hN hfz hlen
  obtain ⟨s, hs⟩ : ∃ s, s = textL zs := ⟨_, rfl⟩
  rw [← hs] at hsz HN HLN HT ⊢
  have HS := Lib.hid hs
  clear hs
  go_enter Try.func19, Try.ntmps19
  go_wp2_with fail
  refine (may_any nb sp w).mono ?_
  rintro e w1 ⟨rfl, hB1⟩
  rw [hmd]
  go_wp2_with fail
  refine (refGet_any (s.take 8) (by rw [List.length_take]; omega) w1).mono ?_
  rintro e w2 ⟨rfl, hB2⟩
  rw [HN.out]
  have HL2 := Lib.hid (hB1.trans (hB2.mono hB1.size))
  have hz2' := HL2.out.size
  clear hB1 hB2
  go_wp2_with fail
  simp only [hqe]
  clear hqe
  go_loopw [10, 11] (fun v i wr => ∃ j : Nat, i = .int .i64 (8 + 2 * (j : Int)) ∧ j ≤ q ∧ Hid (wr.ownsRow w.heap.size 3 1 v j (intsV (zs.take j))) ∧ Hid (∀ z ∈ zs.take j, z < nb) ∧ Below w.heap.size w wr) (fun _ i _ => (8 + 2 * (q : Int) - intOf i).toNat)
  case atStart => exact ⟨0, by simp, Nat.zero_le _, Lib.hid (World.ownsRow_nil _ _ _ _), Lib.hid (fun z hz => by simp at hz), HL2.out⟩
  case round =>
    obtain ⟨j, rfl, hj, HO, HA, hB⟩ := hrel
    have hj0 : (0 : Int) ≤ (j : Int) := Int.natCast_nonneg _
    have hzr := hB.size
    by_cases hjq : j < q
    · have hj1 : (j : Int) < (q : Int) := by omega
      have hjl : j < zs.length := by rw [← HQ.out]; exact hjq
      have hsub := fun w => sub_str s (8 + 2 * j) (8 + 2 * j + 2) (by omega) (by rw [← HLN.out]; omega) w
      have hpk := HT.out j hjl
      rw [show 8 + 2 * j + 2 - (8 + 2 * j) = 2 by omega, hpk] at hsub
      have hzz := HZ.out _ (List.getElem_mem hjl)
      have HK := Lib.hid (show zs.take (j + 1) = zs.take j ++ [zs[j]] from List.take_succ_eq_append_getElem hjl)
      have HM := Lib.hid (List.getElem_mem hjl)
      generalize zs[j] = z at *
      obtain ⟨y, rfl⟩ := Int.eq_ofNat_of_zero_le hzz.1
      simp only [Int.toNat_natCast] at hsub
      have hy : y < 65536 := by omega
      have hwy : IntKind.i64.wrap ((y : Nat) : Int) = ((y : Nat) : Int) := IntWalk.i64_in _ (by omega)
      have hny : numL (le y 2) = y := by rw [numL_le]; exact Nat.mod_eq_of_lt hy
      have HNY := Lib.hid hny
      have e1 : (((8 + 2 * j : Nat) : Int)) = 8 + 2 * (j : Int) := by omega
      have e2 : (((8 + 2 * j + 2 : Nat) : Int)) = 8 + 2 * (j : Int) + 2 := by omega
      simp only [e1, e2] at hsub
      clear hpk hny e1 e2
      go_wp2_with fail
      refine (refGet_any (le y 2) (by rw [le_length]; decide) _).mono ?_
      rintro e w3 ⟨rfl, hB3⟩
      rw [HNY.out]
      have HO3 := Lib.hid (own_below HO.out hB3)
      have HL3 := Lib.hid (hB.trans (hB3.mono hzr))
      have hz3 := HL3.out.size
      clear hB3 hsub
      by_cases hyn : (y : Int) < nb
      · go_wp2_with (at_builtin; go_must (refine wpList_append_own_at _ rfl _ _ 23 rfl w.heap.size 3 i0 (.int .i64 0) 1 8 Try.underlying23 hi hz0 hz1 hz2 rfl (by decide) _ j _ rfl (HO3.out.alloc _) ⟨w3.heap.size, 0, none⟩ 1 1 [.int .i64 (y : Int)] rfl rfl (cell_one_at _ _ rfl _ _) (fun u hu => by rw [List.mem_singleton.1 hu]; rfl) (by unfold maxLen; omega) (by omega) (by rw [World.size_alloc]; omega) ?_; intro vz wz hownz hgrowz hnilz hatz; have HOZ := Lib.hid hownz; have HGZ := Lib.hid (show Below w.heap.size w wz from (HL3.out.alloc hz3 _).grown hgrowz (by rw [World.size_alloc]; omega) (fun k e => (HO3.out.lt k e).1)); clear hownz hgrowz hnilz hatz))
        rw [show intsV (zs.take j) ++ [Value.int .i64 (y : Int)] = intsV (zs.take (j + 1)) by rw [HK.out]; simp [intsV]] at HOZ
        exact ⟨⟨j + 1, by go_num, by omega, HOZ, Lib.hid (by rw [HK.out]; exact fun z hz => (List.mem_append.1 hz).elim (HA.out z) (fun h1 => by rw [List.mem_singleton.1 h1]; exact hyn)), HGZ.out⟩, by simp [intOf]; omega⟩
      · go_wp2_with fail
        go_ret2
        exact ⟨Or.inr ⟨rfl, fun h => absurd (h.2.1 _ HM.out).2 (by omega)⟩, HL3.out⟩
    · obtain rfl : j = q := by omega
      rw [HQ.out, List.take_length] at HO HA
      go_wp2_with fail
      go_ret2
      exact ⟨Or.inl ⟨_, rfl, (Ints.of_own HO.out).2, HS.out, fun z hz => ⟨(HZ.out z hz).1, HA.out z hz⟩, by rw [← HQ.out]; exact hfl⟩, hB⟩

end Go.Proofs.Ytblleinahlaohaa
