/-
  The walk of NodeParts.
-/
import Derived.Test.YtlmlmkeomlehmaaWkn
import Derived.Test.YtlmlmkeomlehmaaFap
import Derived.Test.YtlmlmkeomlehmaaFlp
namespace Go.Proofs.Ytlmlmkeomlehmaa
open Go.RowKit
attribute [local go_sem ↓] Go.wp_at_zero Go.wp_at_succ

theorem tameC_len (l : List Chd) : (tameC l).length = min l.length 15 + 1 := by rw [← tameCto_all]; exact tameCto_len l (Nat.min_le_left _ _)
theorem tameC_get (l : List Chd) (i : Nat) (h : i + 1 < (tameC l).length) : ∃ hi : i < l.length, i < 15 ∧ (tameC l)[i + 1] = tm17 i l[i] := by
  have hl := tameC_len l
  refine ⟨by omega, by omega, ?_⟩
  simp [tameC]
theorem tm17_ok (i : Nat) (c : Chd) (hw : c.Wf) : ChdOk (tm17 i c) :=
  ⟨by show (_ :: c.low.take 10).length ≤ 16; rw [List.length_cons, List.length_take]; omega, by show (0 : Int) ≤ ((c.addr.toNat % 2147483648 : Nat) : Int) ∧ ((c.addr.toNat % 2147483648 : Nat) : Int) ≤ 2147483647; omega, hw.gen, hw.sum⟩
theorem tameC_ok (l : List Chd) (hw : ∀ c ∈ l, c.Wf) : ∀ c ∈ tameC l, ChdOk c := by
  intro c hc
  obtain ⟨i, hi, rfl⟩ := List.getElem_of_mem hc
  cases i with
  | zero => exact ⟨by show ([] : List UInt8).length ≤ 16; simp, by show (0 : Int) ≤ 1 ∧ (1 : Int) ≤ 2147483647; decide, by show 0 < 18446744073709551616; decide, by show 0 < 4294967296; decide⟩
  | succ i =>
    obtain ⟨h1, -, h2⟩ := tameC_get l i hi
    rw [h2]
    exact tm17_ok i _ (hw _ (List.getElem_mem h1))
theorem tameC_rising (l : List Chd) : Rising Chd.low (tameC l) := by
  refine rising_adj _ (fun i hi => ?_)
  obtain ⟨h1, h15, h2⟩ := tameC_get l i hi
  rw [h2]
  have hb2 : (UInt8.ofNat (4 * i + 4 + l[i].low.length % 4)).toNat = 4 * i + 4 + l[i].low.length % 4 := ofNat_toNat_lt (by omega)
  cases i with
  | zero => rfl
  | succ i =>
    obtain ⟨h3, -, h4⟩ := tameC_get l i (by omega)
    rw [h4]
    have hb1 : (UInt8.ofNat (4 * i + 4 + l[i].low.length % 4)).toNat = 4 * i + 4 + l[i].low.length % 4 := ofNat_toNat_lt (by omega)
    show bl (_ :: _) (_ :: _) = true
    simp only [bl, Op.bytesLess]
    rw [Bool.or_eq_true, decide_eq_true_iff]
    left
    show (UInt8.ofNat _).toNat < (UInt8.ofNat _).toNat
    rw [hb1, hb2]
    omega
theorem tameC_right (l : List Chd) (hw : ∀ c ∈ l, c.Wf) : RightC (tameC l) :=
  ⟨by have := tameC_len l; omega, tameC_ok l hw, fun c hc => by simp only [tameC, List.getElem?_cons_zero, Option.some.injEq] at hc; rw [← hc], tameC_rising l⟩
theorem RightC.kids {cs : List Chd} (h : RightC cs) : KidsOk cs := by
  have hp : 0 < cs.length := by have := h.len; omega
  refine ⟨hp, ?_, fun i j hij hj => ?_⟩
  · rw [lowAt_get hp]; exact h.first _ (List.getElem?_eq_getElem hp)
  · rw [lowAt_get (by omega), lowAt_get hj]
    exact List.pairwise_iff_getElem.1 h.rising i j (by omega) hj hij
theorem ofC_tame (l : List Chd) : ofC (tameC l) = (tameC l).map cut20 := by
  unfold ofC
  rw [List.take_of_length_le (by have := tameC_len l; omega)]
theorem cut20_ok {c : Chd} (h : c.low.length ≤ 20) : cut20 c = c := by
  obtain ⟨lo, a, g, s⟩ := c
  unfold cut20
  simp only [Chd.mk.injEq, and_true]
  exact List.take_of_length_le h
theorem ofC_tamed (l : List Chd) (hw : ∀ c ∈ l, c.Wf) : ofC (tameC l) = tameC l := by
  rw [ofC_tame]
  have : ∀ L : List Chd, (∀ c ∈ L, ChdOk c) → L.map cut20 = L := fun L h => by
    induction L with
    | nil => rfl
    | cons c L ih => rw [List.map_cons, ih (fun x hx => h x (List.mem_cons_of_mem _ hx)), cut20_ok (by have := (h c (List.mem_cons_self ..)).low; omega)]
  exact this _ (tameC_ok l hw)

theorem NBox.setAt {w : World} {b : Nat} {cs : List Chd} {us : List Upd} {a a2 : Option Addr} {y y2 : Nat} (h : NBox w b cs us a y a2 y2) {p : Addr} {a' : Option Addr} {n' c' : Nat} (hp : w.cell? p = some (.slice a' n' c')) (hne : p.block ≠ b) (u : Value) : NBox (w.setCell p u) b cs us a y a2 y2 := by
  have ne : ∀ o, p ≠ ⟨b, o, none⟩ := fun o e => hne (by rw [e])
  exact ⟨(World.cell?_setCell_other _ _ _ _ (ne 0)).trans h.c0, (World.cell?_setCell_other _ _ _ _ (ne 1)).trans h.c1, fun o => by rw [World.frozen?_setCell]; exact h.fz o, h.at'.setAt hp u⟩
/-- The messages for the children from number j on. -/
def restN (cs : List Chd) (U : List Upd) (j : Nat) : List Upd := U.filter fun u => decide ((j : Int) ≤ chOf cs u.key)
theorem restN_zero {cs : List Chd} (h : KidsOk cs) (U : List Upd) : restN cs U 0 = U := by
  unfold restN
  rw [List.filter_eq_self]
  intro u _
  obtain ⟨i, hi, -⟩ := h.bel u.key
  simp [hi]
theorem restN_last (cs : List Chd) (U : List Upd) : restN cs U cs.length = [] := by
  unfold restN
  rw [List.filter_eq_nil_iff]
  intro u _
  have := (chAt_lt cs u.key cs.length).2
  unfold chOf
  simp
  omega
theorem restN_rising (cs : List Chd) {U : List Upd} (h : Rising Upd.key U) (j : Nat) : Rising Upd.key (restN cs U j) := List.Pairwise.filter _ h
theorem restN_le (cs : List Chd) (U : List Upd) (j : Nat) : (restN cs U j).length ≤ U.length := List.length_filter_le _ _
theorem restN_cut {cs : List Chd} (h : KidsOk cs) {U : List Upd} (hr : Rising Upd.key U) (j : Nat) (hj : j < cs.length) :
    cutOut (restN cs U j) (rngLow cs (j : Int)) (rngHigh cs (j : Int)) = restN cs U (j + 1) ∧ (cutIn (restN cs U j) (rngLow cs (j : Int)) (rngHigh cs (j : Int))).length + (restN cs U (j + 1)).length = (restN cs U j).length := by
  have h1 := cutOut_bel h (restN_rising cs hr j) j hj
  have h2 := cutIn_bel h (restN_rising cs hr j) j hj
  have h3 : restN cs U (j + 1) = (restN cs U j).filter (fun u => !decide (chOf cs u.key = (j : Int))) := by
    unfold restN
    rw [List.filter_filter]
    refine List.filter_congr fun u _ => ?_
    rw [Bool.eq_iff_iff]
    simp
    omega
  rw [h1, h2, ← h3]
  refine ⟨rfl, ?_⟩
  rw [h3]
  have : ∀ (L : List Upd) (p : Upd → Bool), (L.filter p).length + (L.filter fun u => !p u).length = L.length := fun L p => by
    induction L with
    | nil => rfl
    | cons x L ih =>
      cases hp : p x <;> simp [hp] <;> omega
  exact this _ _

theorem tameC_lows (l : List Chd) (hw : ∀ c ∈ l, c.Wf) : ∀ x ∈ tameC l, x.low.length ≤ 140737488355328 := fun x hx => by have := (tameC_ok l hw x hx).low; omega
theorem withAll17 (m : List Upd) : Rising Upd.key (withAll (ofUs m)) ∧ (∀ u ∈ withAll (ofUs m), u.Wf) ∧ (withAll (ofUs m)).length ≤ 10 := by
  rw [← ofUto_all]
  obtain ⟨h1, h2, h3⟩ := withAll_ok (ofUto m (min m.length 10)) (ofUto_ok m _)
  have := ofUto_len m (min m.length 10)
  exact ⟨h1, fun u hu => (h2 u hu).1, by omega⟩

set_option maxRecDepth 100000 in
set_option maxHeartbeats 16000000 in
theorem nodeParts_walk (ao : Option Addr) (c : Nat) (l : List Chd) (bo : Option Addr) (d : Nat) (m : List Upd) (key : List UInt8) (w : World) (hs : SlAt Chd.cells 4 w ao l) (hc : l.length ≤ c) (hm : SlAt Upd.cells 4 w bo m) (hd : m.length ≤ d)
    (hsl : ∀ x ∈ l, x.Wf ∧ x.low.length ≤ 140737488355328) (hml : ∀ x ∈ m, x.Wf ∧ x.key.length ≤ 140737488355328) :
    Calls Try.prog 6 #[.slice ao l.length c, .slice bo m.length d, .string (S key)] w fun e w' => e = .returned (.bool true) ∧ Below w.heap.size w w' := by
  have hwf : ∀ c ∈ l, c.Wf := fun x hx => (hsl x hx).1
  have hR := tameC_right l hwf
  have HKO := Lib.hid hR.kids
  have hlen := hR.len
  have HTM := Lib.hid (tame17_any ao c l w hs hc (fun x hx => (hsl x hx).2))
  have HOF := Lib.hid (fun (a : Option Addr) (y : Nat) (w' : World) (h1 : SlAt Chd.cells 4 w' a (tameC l)) (h2 : (tameC l).length ≤ y) (h3 : SlAt Upd.cells 4 w' bo m) => of17_any a y (tameC l) bo d m w' h1 h2 h3 hd (tameC_lows l hwf) hml)
  rw [ofC_tamed l hwf] at HOF
  obtain ⟨hur, huw, hul⟩ := withAll17 m
  have HM := Lib.hid hm
  generalize tameC l = cs at *
  generalize withAll (ofUs m) = U at *
  have HUR := Lib.hid hur
  obtain ⟨n, hn⟩ : ∃ n, n = cs.length := ⟨_, rfl⟩
  have HCN := Lib.hid hn
  have hn1 : 1 ≤ n ∧ n ≤ 16 := by omega
  have hn0 : ¬ (n : Int) = 0 := by omega
  obtain ⟨qk, hqk, -⟩ := HKO.out.bel key
  clear hs hm hsl hml hwf hR hlen hur huw
  go_enter Try.func6, Try.ntmps6
  go_wp2_with fail
  refine HTM.out.mono ?_
  rintro e w1 ⟨⟨ta, ty, rfl, hto⟩, hB1⟩
  have hts := (slC_row hto).2
  obtain ⟨ta', ty', e1, hta, hty, -⟩ := id hts
  simp only [Value.slice.injEq] at e1
  obtain ⟨rfl, -, rfl⟩ := e1
  have HL1 := Lib.hid hB1
  clear hto hts HTM
  go_wp2_with fail
  refine (HOF.out ta ty w1 hta hty (HM.out.kept hB1 (Nat.le_refl _))).mono ?_
  rintro e w2 ⟨⟨va, vb, rfl, hna, hnb⟩, hB2⟩
  obtain ⟨a1, y1, a2, y2, rfl⟩ := hna.form'
  obtain ⟨a3, y3, a4, y4, rfl⟩ := hnb.form'
  have HL2 := Lib.hid (HL1.out.trans (hB2.mono HL1.out.size))
  have HNA := Lib.hid hna
  clear hna hnb hB2 hB1 hta hty HL1 HOF
  go_upto_region 2 with (fail)
  have NB := Lib.hid ((NBox.new (b := w2.heap.size) rfl HNA.out 31).on ((Below.refl _ _).alloc (Nat.le_refl _) (.cells #[.slice a3 cs.length y3, .slice a4 U.length y4] 35)))
  have HL3 := Lib.hid ((HL2.out.alloc HL2.out.size (.cells #[.slice a1 cs.length y1, .slice a2 U.length y2] 31)).alloc (by have := HL2.out.size; simp; omega) (.cells #[.slice a3 cs.length y3, .slice a4 U.length y4] 35))
  generalize ((w2.alloc (.cells #[.slice a1 cs.length y1, .slice a2 U.length y2] 31)).alloc (.cells #[.slice a3 cs.length y3, .slice a4 U.length y4] 35)) = w3 at *
  rw [← hn]
  clear HNA hn
  go_wp2_with fail
  refine (wakes17 w3).mono ?_
  rintro e w4 ⟨rfl, hB4⟩
  have NB4 := Lib.hid (NB.out.on hB4)
  have HL4 := Lib.hid (HL3.out.trans (hB4.mono HL3.out.size))
  clear hB4 NB HL3
  have k0 := NB4.out.c0
  have k1 := NB4.out.c1
  rw [← HCN.out] at k0
  have HCH := Lib.hid (fun w' (h : NodeAt w' (.agg #[.slice a1 n y1, .slice a2 U.length y2]) cs U) => child_any (.agg #[.slice a1 n y1, .slice a2 U.length y2]) cs U key w' h (by have := HCN.out; omega))
  rw [hqk] at HCH
  go_wp2_with fail
  refine (HCH.out w4 (by have := NB4.out.at'; rw [← HCN.out] at this; exact this)).mono ?_
  rintro e w5 ⟨rfl, hB5⟩
  have NB5 := Lib.hid (NB4.out.on hB5)
  have HL5 := Lib.hid (HL4.out.trans (hB5.mono HL4.out.size))
  clear hB5 NB4 HL4 HCH k0 k1
  have k0 := NB5.out.c0
  have k1 := NB5.out.c1
  rw [← HCN.out] at k0
  go_upto_region 7 with (fail)
  have hX6 : Below w5.heap.size w5 (w5.alloc (.cells #[.slice a2 U.length y2] 29)) := by go_grown
  have NB6 := Lib.hid (NB5.out.on hX6)
  have HL6 := Lib.hid (HL5.out.trans (hX6.mono HL5.out.size))
  have hb5 := NB5.out.lt
  have HRB := Lib.hid (show (w5.alloc (.cells #[.slice a2 U.length y2] 29)).cell? ⟨w5.heap.size, 0, none⟩ = some (.slice a2 U.length y2) ∧ (w5.alloc (.cells #[.slice a2 U.length y2] 29)).frozen? ⟨w5.heap.size, 0, none⟩ = false ∧ BoxU (w5.alloc (.cells #[.slice a2 U.length y2] 29)) (.agg #[.slice a2 U.length y2]) U from
    ⟨by rw [World.cell?_alloc_at _ _ _ _ rfl]; rfl, World.frozen?_alloc_at _ _ _ _ rfl, ⟨_, rfl, NB6.out.at'.parts.2⟩⟩)
  generalize w5.alloc (.cells #[.slice a2 U.length y2] 29) = w6 at *
  clear hX6 NB5 HL5 k0 k1
  have k0 := NB6.out.c0
  have k1 := NB6.out.c1
  rw [← HCN.out] at k0
  go_wp2_with fail
  go_loopw [10, 40] (fun sm i wr => ∃ (j s : Nat) (ra : Option Addr) (rc : Nat), i = .int .i64 j ∧ sm = .int .i64 s ∧ j ≤ n ∧ Hid (s + (restN cs U j).length = U.length) ∧ s ≤ 10 ∧ Hid (NBox wr w2.heap.size cs U a1 y1 a2 y2) ∧ Hid (wr.cell? ⟨w5.heap.size, 0, none⟩ = some (.slice ra (restN cs U j).length rc) ∧ wr.frozen? ⟨w5.heap.size, 0, none⟩ = false ∧ BoxU wr (.agg #[.slice ra (restN cs U j).length rc]) (restN cs U j)) ∧ Hid (Below w.heap.size w wr)) (fun _ i _ => n - (intOf i).toNat)
  case atStart =>
    have hr0 := restN_zero HKO.out U
    exact ⟨0, 0, a2, y2, rfl, rfl, Nat.zero_le _, Lib.hid (by rw [hr0]; omega), by omega, NB6, Lib.hid (by rw [hr0]; exact HRB.out), HL6⟩
  case round =>
    obtain ⟨j, s, ra, rc, rfl, rfl, hj, HSM, hs10, NB, HRB, HL⟩ := hrel
    have hj0 : (0 : Int) ≤ (j : Int) := Int.natCast_nonneg _
    have k0 := NB.out.c0
    have k1 := NB.out.c1
    rw [← HCN.out] at k0
    obtain ⟨r0, rf, rb⟩ := HRB.out
    have RB := Lib.hid rb
    have hw2l := HL2.out.size
    by_cases hjn : j < n
    · have hj1 : (j : Int) < (n : Int) := by omega
      have hjl : j < cs.length := by rw [← HCN.out]; exact hjn
      have hwb := within_bel HKO.out key j hjl
      rw [hqk] at hwb
      obtain ⟨hcut, hcl⟩ := restN_cut HKO.out HUR.out j hjl
      have HRG := Lib.hid (fun w' h => range_any (.agg #[.slice a1 n y1, .slice a2 U.length y2]) cs U (j : Int) w' h (by have := HCN.out; omega) (by omega))
      have hrr := restN_rising cs HUR.out j
      have hrl := restN_le cs U j
      have HCT := Lib.hid (fun w' h => cut_next ra _ rc (restN cs U j) (rngLow cs (j : Int)) (rngHigh cs (j : Int)) w' rfl h (by omega) hrr)
      rw [hcut] at HCT
      generalize cutIn (restN cs U j) (rngLow cs (j : Int)) (rngHigh cs (j : Int)) = inL at *
      generalize rngLow cs (j : Int) = low at *
      generalize rngHigh cs (j : Int) = high at *
      have HCL := Lib.hid (show s + inL.length + (restN cs U (j + 1)).length = U.length by have := HSM.out; omega)
      have hil : inL.length ≤ 10 := by omega
      have hsl : s + inL.length ≤ 10 := by have := HCL.out; omega
      clear hcut hcl hrr HSM
      go_wp2_with fail
      refine (HRG.out wr (by have := NB.out.at'; rw [← HCN.out] at this; exact this)).mono ?_
      rintro e w7 ⟨rfl, hB7⟩
      have NB7 := Lib.hid (NB.out.on hB7)
      have HL7 := Lib.hid (HL.out.trans (hB7.mono HL.out.size))
      have HR7 := Lib.hid (And.intro (kept_cell hB7 r0) (And.intro (((bcell hB7).2 _ 0 (World.block_lt_of_cell? wr _ r0)).trans rf) (rb.kept hB7 (Nat.le_refl _))))
      clear hB7 NB HL HRB k0 k1 r0 rf rb RB HRG
      have HQ := Lib.hid hqk
      clear hqk
      have hall : ∃ wi : Bool, withinB key low high = wi ∧ wi = decide ((qk : Int) = (j : Int)) := ⟨_, rfl, hwb⟩
      obtain ⟨wi, hwi1, hwi2⟩ := hall
      clear hwb
      unfold withinB at hwi1
      have hjq : ((j : Int) == (qk : Int)) = wi := by rw [hwi2, Bool.eq_iff_iff]; simp; omega
      have HJQ := Lib.hid hjq
      clear hwi2 hjq
      have c0 := NB7.out.c0
      have c1 := NB7.out.c1
      rw [← HCN.out] at c0
      obtain ⟨r0, rf, rb⟩ := HR7.out
      have RB := Lib.hid rb
      clear rb
      have hcase : (Op.bytesLess key low = true ∧ Op.bytesLess low key = false ∧ (key == low) = false ∧ (low == key) = false ∧ wi = false) ∨ ((Op.bytesLess key low = false ∧ (Op.bytesLess low key || key == low) = true ∧ (Op.bytesLess low key || low == key) = true) ∧ wi = (high.isEmpty || Op.bytesLess key high)) := by
        cases hbl : bl key low with
        | true =>
          refine Or.inl ⟨hbl, bl_asymm hbl, by simpa using bl_ne hbl, by simpa using fun e : low = key => bl_ne hbl e.symm, ?_⟩
          rw [hbl] at hwi1
          simpa using hwi1.symm
        | false =>
          refine Or.inr ⟨⟨hbl, ?_, ?_⟩, ?_⟩
          · rcases bl_not hbl with e | e
            · simp [e]
            · have : Op.bytesLess low key = true := e
              simp [this]
          · rcases bl_not hbl with e | e
            · simp [e]
            · have : Op.bytesLess low key = true := e
              simp [this]
          · rw [hbl] at hwi1
            simpa using hwi1.symm
      clear hwi1
      have hjq := HJQ.out
      rcases hcase with ⟨l1, l2, l3, l4, rfl⟩ | ⟨⟨l1, l2, l3⟩, hwi⟩
      case' inr =>
        cases hhe : high.isEmpty
        case' true =>
          rw [hhe] at hwi
          simp only [Bool.true_or] at hwi
          subst hwi
        case' false =>
          rw [hhe] at hwi
          simp only [Bool.false_or] at hwi
          cases hbh : Op.bytesLess key high
          all_goals
            rw [hbh] at hwi
            subst hwi
      all_goals
        go_upto_region 15 with (fail)
        clear hjq
        have hX8 : Below w7.heap.size w7 (w7.alloc (.cells #[.slice none 0 0] 29)) := by go_grown
        have i0 : (w7.alloc (.cells #[.slice none 0 0] 29)).cell? ⟨w7.heap.size, 0, none⟩ = some (.slice none 0 0) := by rw [World.cell?_alloc_at _ _ _ _ rfl]; rfl
        have if0 : (w7.alloc (.cells #[.slice none 0 0] 29)).frozen? ⟨w7.heap.size, 0, none⟩ = false := World.frozen?_alloc_at _ _ _ _ rfl
        have hzi : w7.heap.size < (w7.alloc (.cells #[.slice none 0 0] 29)).heap.size := by simp
        generalize w7.alloc (.cells #[.slice none 0 0] 29) = w8 at *
        have NB8 := Lib.hid (NB7.out.on hX8)
        have HL8 := Lib.hid (HL7.out.trans (hX8.mono HL7.out.size))
        have hr5 := World.block_lt_of_cell? w7 _ r0
        have hw27 := NB7.out.lt
        have hw07 := HL7.out.size
        have r08 := kept_cell hX8 r0
        have rf8 := ((bcell hX8).2 _ 0 hr5).trans rf
        have RB8 := Lib.hid (RB.out.kept hX8 (Nat.le_refl _))
        clear hX8 r0 rf RB NB7 HL7 c0 c1 HR7
        go_wp2_with fail
        refine (HCT.out w8 RB8.out).mono ?_
        rintro e w9 ⟨⟨x1, z1, x2, z2, rfl, hin, hout⟩, hB9⟩
        have NB9 := Lib.hid (NB8.out.on hB9)
        have HL9 := Lib.hid (HL8.out.trans (hB9.mono HL8.out.size))
        have r09 := kept_cell hB9 r08
        have rf9 := ((bcell hB9).2 w5.heap.size 0 (World.block_lt_of_cell? w8 _ r08)).trans rf8
        have i09 := kept_cell hB9 i0
        have if9 := ((bcell hB9).2 w7.heap.size 0 hzi).trans if0
        have HIN := Lib.hid hin
        have HOUT := Lib.hid hout
        clear hB9 NB8 HL8 r08 rf8 RB8 i0 if0 HCT hin hout
        have hne57 : ¬ w7.heap.size = w5.heap.size := by omega
        have hne75 : ¬ w5.heap.size = w7.heap.size := by omega
        go_upto_region 16 with (fail)
        have NBa := NB9.out.setAt i09 (p := ⟨w7.heap.size, 0, none⟩) (by show w7.heap.size ≠ w2.heap.size; omega) (.slice x1 inL.length z1)
        have r0a : (w9.setCell ⟨w7.heap.size, 0, none⟩ (.slice x1 inL.length z1)).cell? ⟨w5.heap.size, 0, none⟩ = some _ := (World.cell?_setCell_other _ _ _ _ (addr_ne (Or.inl hne57))).trans r09
        have NBb := Lib.hid (NBa.setAt r0a (p := ⟨w5.heap.size, 0, none⟩) (by show w5.heap.size ≠ w2.heap.size; omega) (.slice x2 (restN cs U (j + 1)).length z2))
        have OUTb := Lib.hid ((HOUT.out.setAt i09 (.slice x1 inL.length z1)).setAt r0a (.slice x2 (restN cs U (j + 1)).length z2))
        have HLb := Lib.hid ((HL9.out.setCell (p := ⟨w7.heap.size, 0, none⟩) (by show w.heap.size ≤ w7.heap.size; omega) (.slice x1 inL.length z1)).setCell (p := ⟨w5.heap.size, 0, none⟩) (by show w.heap.size ≤ w5.heap.size; omega) (.slice x2 (restN cs U (j + 1)).length z2))
        have rb0 : ((w9.setCell ⟨w7.heap.size, 0, none⟩ (.slice x1 inL.length z1)).setCell ⟨w5.heap.size, 0, none⟩ (.slice x2 (restN cs U (j + 1)).length z2)).cell? ⟨w5.heap.size, 0, none⟩ = some (.slice x2 (restN cs U (j + 1)).length z2) := World.cell?_setCell_same _ _ _ r0a
        have rbf : ((w9.setCell ⟨w7.heap.size, 0, none⟩ (.slice x1 inL.length z1)).setCell ⟨w5.heap.size, 0, none⟩ (.slice x2 (restN cs U (j + 1)).length z2)).frozen? ⟨w5.heap.size, 0, none⟩ = false := by rw [World.frozen?_setCell, World.frozen?_setCell]; exact rf9
        have ib0 : ((w9.setCell ⟨w7.heap.size, 0, none⟩ (.slice x1 inL.length z1)).setCell ⟨w5.heap.size, 0, none⟩ (.slice x2 (restN cs U (j + 1)).length z2)).cell? ⟨w7.heap.size, 0, none⟩ = some (.slice x1 inL.length z1) := (World.cell?_setCell_other _ _ _ _ (addr_ne (Or.inl hne75))).trans (World.cell?_setCell_same _ _ _ i09)
        generalize (w9.setCell ⟨w7.heap.size, 0, none⟩ (.slice x1 inL.length z1)).setCell ⟨w5.heap.size, 0, none⟩ (.slice x2 (restN cs U (j + 1)).length z2) = Z at *
        clear NBa r0a NB9 HL9 HOUT HIN r09 rf9 i09 if9 hne57 hne75 hzi
        go_wp2_with fail
        refine (lenU_next x1 inL.length z1 Z).mono ?_
        rintro e w10 ⟨rfl, hB10⟩
        have NBc := Lib.hid (NBb.out.on hB10)
        have HLc := Lib.hid (HLb.out.trans (hB10.mono HLb.out.size))
        have HRc := Lib.hid (And.intro (kept_cell hB10 rb0) (And.intro (((bcell hB10).2 _ 0 (World.block_lt_of_cell? Z _ rb0)).trans rbf) (OUTb.out.kept hB10 (Nat.le_refl _))))
        clear hB10 NBb HLb OUTb rb0 rbf ib0
        go_wp2_with fail
        exact ⟨⟨j + 1, s + inL.length, x2, z2, by go_num, by go_num, by omega, HCL, hsl, NBc, HRc, HLc⟩, by simp [intOf]; omega⟩
    · obtain rfl : j = n := by omega
      have hz : (restN cs U j).length = 0 := by rw [HCN.out, restN_last]; rfl
      have HSU := Lib.hid (show s = U.length by have := HSM.out; omega)
      rw [hz] at r0
      clear hz
      go_wp2_with fail
      refine (lenU_next ra 0 rc wr).mono ?_
      rintro e w7 ⟨rfl, hB7⟩
      have c1 := kept_cell hB7 k1
      have HL7 := Lib.hid (HL.out.trans (hB7.mono HL.out.size))
      clear hB7 k0 k1 r0 rf rb RB
      go_wp2_with fail
      refine (lenU_next a2 U.length y2 w7).mono ?_
      rintro e w8 ⟨rfl, hB8⟩
      have HL8 := Lib.hid (HL7.out.trans (hB8.mono HL7.out.size))
      rw [← HSU.out]
      clear hB8 c1
      go_wp2_with fail
      go_ret
      exact ⟨rfl, HL8.out⟩

end Go.Proofs.Ytlmlmkeomlehmaa
