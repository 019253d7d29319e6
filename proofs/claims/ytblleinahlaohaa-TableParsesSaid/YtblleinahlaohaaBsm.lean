/-
  The walk of law 06's same.
-/
import Derived.Test.YtblleinahlaohaaBrf
namespace Go.Proofs.Ytblleinahlaohaa
open Go.RowKit Go.Shelf
set_option linter.unusedVariables false
attribute [local go_sem ↓] Go.wp_at_zero Go.wp_at_succ

/-- The first k of l are those below b. -/
def Past (l : List Int) (b : Int) (k : Nat) : Prop := k ≤ l.length ∧ ∀ i (h : i < l.length), (i < k ↔ l[i] < b)
theorem Past.start {l : List Int} {b : Int} (h : ∀ x ∈ l, b ≤ x) : Past l b 0 :=
  ⟨Nat.zero_le _, fun i hi => ⟨fun e => absurd e (by omega), fun e => absurd (h _ (List.getElem_mem hi)) (by omega)⟩⟩
theorem Past.skip {l : List Int} {b : Int} {k : Nat} (h : Past l b k) (hb : b ∉ l) : Past l (b + 1) k :=
  ⟨h.1, fun i hi => by
    have h1 := h.2 i hi
    have h2 : l[i] ≠ b := fun e => hb (e ▸ List.getElem_mem hi)
    omega⟩
theorem Past.take {l : List Int} {b : Int} {k : Nat} (h : Past l b k) (hr : l.Pairwise (· < ·)) (hb : b ∈ l) : ∃ hk : k < l.length, l[k] = b ∧ Past l (b + 1) (k + 1) := by
  obtain ⟨i, hi, e⟩ := List.getElem_of_mem hb
  have h1 := h.2 i hi
  have hki : k ≤ i := by omega
  have hk : k < l.length := by omega
  have h2 := h.2 k hk
  have hik : i = k := by
    rcases Nat.lt_or_ge k i with h3 | h3
    · have := List.pairwise_iff_getElem.1 hr k i hk hi h3
      omega
    · omega
  subst hik
  refine ⟨hk, e, by omega, fun j hj => ?_⟩
  have h3 := h.2 j hj
  by_cases hji : j = i
  · subst hji; omega
  · have h4 : l[j] ≠ b := fun e2 => by
      rcases Nat.lt_or_ge j i with h5 | h5
      · have := List.pairwise_iff_getElem.1 hr j i hj hi h5; omega
      · have := List.pairwise_iff_getElem.1 hr i j hi hj (by omega); omega
    omega
theorem Past.done {l : List Int} {b : Int} {k : Nat} (h : Past l b k) (hb : ∀ x ∈ l, x < b) : k = l.length := by
  rcases Nat.lt_or_ge k l.length with h1 | h1
  · have := (h.2 k h1).2 (hb _ (List.getElem_mem h1)); omega
  · have := h.1; omega
theorem nodup_len : ∀ (l zs : List Int), l.Nodup → (∀ x ∈ l, x ∈ zs) → l.length ≤ zs.length
  | [], _, _, _ => Nat.zero_le _
  | x :: l, zs, hn, hs => by
    have hx := hs x (by simp)
    obtain ⟨h1, h2⟩ := List.nodup_cons.1 hn
    have h3 := nodup_len l (zs.erase x) h2 (fun y hy => (List.mem_erase_of_ne (fun e => h1 (by rw [← e]; exact hy))).2 (hs y (by simp [hy])))
    rw [List.length_erase_of_mem hx] at h3
    have := List.length_pos_of_mem hx
    simp only [List.length_cons]
    omega
theorem moved_len {zs l : List Int} (h : MovedIs zs l) : l.length ≤ zs.length :=
  nodup_len l zs (h.1.imp fun {a b} hab => Int.ne_of_lt hab) (fun x hx => (h.2 x).1 hx)
theorem PlaceIs.moved {nb x p : Int} {zs : List Int} (h : PlaceIs nb zs x p) (hx : x < nb) : (p = x ↔ x ∉ zs) := by
  constructor
  · intro e hz
    rcases h with ⟨k, hk, e1, e2, rfl⟩ | ⟨hl, -⟩
    · omega
    · obtain ⟨i, hi, e⟩ := List.getElem_of_mem hz
      exact hl i hi (by rw [List.getElem?_eq_getElem hi]; exact e)
  · intro hz
    exact h.unique (PlaceIs.own hz)

set_option maxRecDepth 100000 in
set_option maxHeartbeats 8000000 in
theorem same06 (nb sp : Int) (sv mv : Value) (zs : List Int) (w : World) (hm : MayBe nb sp) (h : Ints w.heap.size w sv zs) (hv : Ints w.heap.size w mv zs) (hz : ∀ z ∈ zs, 0 ≤ z ∧ z < nb) (hl : (zs.length : Int) ≤ sp) :
    Calls Try.prog 17 #[.agg #[.int .i64 nb, .int .i64 sp, sv], .int .i64 nb, .int .i64 sp, mv] w fun e w' => e = .returned (.bool true) ∧ Below w.heap.size w w' := by
  obtain ⟨hn1, hn2, hs1, hs2⟩ := hm
  obtain ⟨a, c, rfl⟩ := h.len
  obtain ⟨ma, mc, rfl⟩ := hv.len
  have hzl : zs.length ≤ 32 := by omega
  have HZ := Lib.hid hz
  have HV := Lib.hid hv
  have BX := Lib.hid (BoxT.new (w := w) (nb := nb) (sp := sp) rfl h 25)
  have hX : Below w.heap.size w (w.alloc (.cells #[.int .i64 nb, .int .i64 sp, .slice a zs.length c] 25)) := by go_grown
  have hwu : IntKind.u64.wrap (zs.length : Int) = (zs.length : Int) := by rw [IntKind.wrap_u64]; omega
  have hws : IntKind.i64.wrap (sp - (zs.length : Int)) = sp - (zs.length : Int) := IntWalk.i64_in _ (by omega)
  clear h hv hz
  go_enter Try.func17, Try.ntmps17
  go_upto_region 1 with (fail)
  obtain ⟨w1, hw1⟩ : ∃ w1, w1 = w.alloc (.cells #[.int .i64 nb, .int .i64 sp, .slice a zs.length c] 25) := ⟨_, rfl⟩
  rw [← hw1] at BX hX ⊢
  clear hw1
  have HL1 := Lib.hid hX
  clear hX
  obtain ⟨k0, k1, k2, -, -⟩ := BX.out
  go_wp2_with fail
  refine (blocks_any nb sp a zs.length c w1).mono ?_
  rintro e w2 ⟨rfl, hB2⟩
  have B2 := Lib.hid (BX.out.on hB2)
  have HL2 := Lib.hid (HL1.out.trans (hB2.mono HL1.out.size))
  clear hB2 k0 k1 k2 BX HL1
  obtain ⟨k0, k1, k2, -, -⟩ := B2.out
  go_wp2_with fail
  refine (left_any nb sp a zs.length c w2 (by omega) (by omega) (by omega)).mono ?_
  rintro e w3 ⟨rfl, hB3⟩
  have B3 := Lib.hid (B2.out.on hB3)
  have HL3 := Lib.hid (HL2.out.trans (hB3.mono HL2.out.size))
  clear hB3 k0 k1 k2 B2 HL2
  obtain ⟨k0, k1, k2, -, -⟩ := B3.out
  go_wp2_with fail
  refine (gen_any nb sp a zs.length c w3 (by omega)).mono ?_
  rintro e w4 ⟨rfl, hB4⟩
  have B4 := Lib.hid (B3.out.on hB4)
  have HL4 := Lib.hid (HL3.out.trans (hB4.mono HL3.out.size))
  clear hB4 k0 k1 k2 B3 HL3
  obtain ⟨k0, k1, k2, -, -⟩ := B4.out
  go_wp2_with fail
  refine (text_any nb sp (.slice a zs.length c) zs w4 B4.out.ints (fun z hz => by have := HZ.out z hz; omega) (by omega)).mono ?_
  rintro e w5 ⟨rfl, hB5⟩
  have B5 := Lib.hid (B4.out.on hB5)
  have HL5 := Lib.hid (HL4.out.trans (hB5.mono HL4.out.size))
  clear hB5 k0 k1 k2 B4 HL4
  go_wp2_with fail
  refine (refText_any (.slice ma zs.length mc) zs w5 (HV.out.kept HL5.out) (fun z hz => by have := HZ.out z hz; omega) (by omega)).mono ?_
  rintro e w6 ⟨rfl, hB6⟩
  have B6 := Lib.hid (B5.out.on hB6)
  have HL6 := Lib.hid (HL5.out.trans (hB6.mono HL5.out.size))
  clear hB6 B5 HL5
  obtain ⟨k0, k1, k2, -, -⟩ := B6.out
  go_wp2_with fail
  refine (moved_any nb sp (.slice a zs.length c) zs w6 B6.out.ints (by omega)).mono ?_
  rintro e w7 ⟨⟨lv, l, rfl, hil, hml⟩, hB7⟩
  obtain ⟨la, lc, rfl⟩ := hil.len
  have B7 := Lib.hid (B6.out.on hB7)
  have HL7 := Lib.hid (HL6.out.trans (hB7.mono HL6.out.size))
  have HIL := Lib.hid hil
  have HML := Lib.hid hml
  have HLZ := Lib.hid (show ∀ x ∈ l, 0 ≤ x ∧ x < nb from fun x hx => HZ.out x ((hml.2 x).1 hx))
  clear hB7 k0 k1 k2 B6 HL6 hil hml
  have HPS := Lib.hid (Past.start (l := l) (b := -1) (fun x hx => by have := HLZ.out x hx; omega))
  have hz7 := HL7.out.size
  obtain ⟨n, hn⟩ : ∃ n, n = l.length := ⟨_, rfl⟩
  rw [← hn]
  have HN := Lib.hid hn
  clear hn
  have hn9 : n ≤ 4096 := by have := moved_len HML.out; have := HN.out; omega
  go_wp2_with fail
  go_loopw [10, 11] (fun at' b' wr => ∃ (k : Nat) (b : Int), at' = .int .i64 k ∧ b' = .int .i64 b ∧ -1 ≤ b ∧ b ≤ nb + 1 ∧ k ≤ n ∧ Hid (Past l b k) ∧ Hid (BoxT wr w.heap.size nb sp (.slice a zs.length c) zs) ∧ Hid (Below w7.heap.size w7 wr)) (fun _ b' _ => (nb + 1 - intOf b').toNat)
  case atStart => exact ⟨0, -1, rfl, rfl, by omega, by omega, Nat.zero_le _, HPS, B7, Lib.hid (Below.refl _ _)⟩
  case round =>
    obtain ⟨k, b, rfl, rfl, hb0, hb1, hkn, HP, B, HB⟩ := hrel
    obtain ⟨k0, k1, k2, -, -⟩ := B.out
    have hk0 : (0 : Int) ≤ (k : Int) := Int.natCast_nonneg _
    by_cases hbn : b ≤ nb
    · by_cases hin : 0 ≤ b ∧ b < nb
      · obtain ⟨hi0, hi1⟩ := hin
        go_wp2_with fail
        refine (at_any nb sp (.slice a zs.length c) zs b _ B.out.ints ⟨hi0, hi1⟩ (by omega) (by omega)).mono ?_
        rintro e v1 ⟨⟨p, rfl, hp⟩, hB1⟩
        have B1 := Lib.hid (B.out.on hB1)
        have HB1 := Lib.hid (HB.out.trans (hB1.mono HB.out.size))
        have HPL := Lib.hid hp
        clear hB1 hp k0 k1 k2 B HB
        go_wp2_with fail
        refine (refAt_any nb (.slice ma zs.length mc) zs b v1 (HV.out.kept (HL7.out.trans (HB1.out.mono HL7.out.size))) ⟨hi0, hi1⟩ (by omega) (by omega)).mono ?_
        rintro e v2 ⟨⟨q, rfl, hq⟩, hB2⟩
        obtain rfl : q = p := hq.unique HPL.out
        have B2 := Lib.hid (B1.out.on hB2)
        have HB2 := Lib.hid (HB1.out.trans (hB2.mono HB1.out.size))
        have hmv := hq.moved hi1
        clear hB2 hq B1 HB1
        by_cases hbz : b ∈ zs
        · have hqb : ¬ q = b := fun e => (hmv.1 e) hbz
          obtain ⟨hk, he, hp'⟩ := HP.out.take HML.out.1 ((HML.out.2 b).2 hbz)
          have hkn' : k < n := by rw [HN.out]; exact hk
          have hki : (k : Int) < (n : Int) := by omega
          have hik := HIL.out.below HB2.out
          obtain ⟨lb, lo, rfl, hlb, q0⟩ := hik.at k hk
          rw [he] at q0
          have HPN := Lib.hid hp'
          clear hmv hbz hp' he hik
          go_wp2_with fail
          exact ⟨⟨k + 1, b + 1, by go_num, by go_num, by omega, by omega, by omega, HPN, B2, HB2⟩, by simp [intOf]; omega⟩
        · have hqb : q = b := hmv.2 hbz
          subst hqb
          have HPN := Lib.hid (HP.out.skip (fun e => hbz ((HML.out.2 q).1 e)))
          clear hmv hbz
          go_wp2_with fail
          exact ⟨⟨k, q + 1, by go_num, by go_num, by omega, by omega, by omega, HPN, B2, HB2⟩, by simp [intOf]; omega⟩
      · have HIN := Lib.hid hin
        have HPN := Lib.hid (HP.out.skip (fun e => hin (HLZ.out b e)))
        clear hin
        go_wp2_with fail
        refine (at_bad nb sp a zs.length c b _ HIN.out).mono ?_
        rintro e v1 ⟨rfl, hB1⟩
        have B1 := Lib.hid (B.out.on hB1)
        have HB1 := Lib.hid (HB.out.trans (hB1.mono HB.out.size))
        clear hB1 k0 k1 k2 B HB
        go_wp2_with fail
        refine (refAt_bad nb ma zs.length mc b v1 HIN.out).mono ?_
        rintro e v2 ⟨rfl, hB2⟩
        have B2 := Lib.hid (B1.out.on hB2)
        have HB2 := Lib.hid (HB1.out.trans (hB2.mono HB1.out.size))
        clear hB2 B1 HB1
        go_wp2_with fail
        exact ⟨⟨k, b + 1, by go_num, by go_num, by omega, by omega, by omega, HPN, B2, HB2⟩, by simp [intOf]; omega⟩
    · obtain rfl : b = nb + 1 := by omega
      obtain rfl : k = n := by
        rw [HN.out]
        exact HP.out.done (fun x hx => by have := HLZ.out x hx; omega)
      go_wp2_with fail
      go_ret
      exact ⟨rfl, HL7.out.trans (HB.out.mono hz7)⟩

end Go.Proofs.Ytblleinahlaohaa
