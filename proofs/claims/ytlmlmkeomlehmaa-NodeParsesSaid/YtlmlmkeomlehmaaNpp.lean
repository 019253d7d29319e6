/-
  The walk of NodeParses.
-/
import Derived.Test.YtlmlmkeomlehmaaNrb
import Derived.Test.YtlmlmkeomlehmaaNtw
import Derived.Test.YtlmlmkeomlehmaaNsm
import Derived.Test.YtlmlmkeomlehmaaNrq
import Derived.Test.YtlmlmkeomlehmaaByI
import Derived.BigRegion
import Derived.Deep.DeepCutAuto
namespace Go.Proofs.Ytlmlmkeomlehmaa
open Go.RowKit
attribute [local go_sem ↓] Go.wp_at_zero Go.wp_at_succ

/-- What a parse of a node's text makes, as a function of the text. -/
def ResQ (s0 : List UInt8) (cs : List Chd) (us : List Upd) (k : Int) : Prop :=
  (k = 0 ∧ NodeOk cs us ∧ s0 = textN cs us) ∨ (k = 4 ∧ cs = [] ∧ us = [] ∧ ∀ cs us, NodeOk cs us → s0 ≠ textN cs us)
theorem ResQ.unique {s0 : List UInt8} {cs cs' : List Chd} {us us' : List Upd} {k k' : Int} (h : ResQ s0 cs us k) (h' : ResQ s0 cs' us' k') : cs' = cs ∧ us' = us ∧ k' = k := by
  rcases h with ⟨rfl, h1, h2⟩ | ⟨rfl, rfl, rfl, h1⟩ <;> rcases h' with ⟨rfl, h3, h4⟩ | ⟨rfl, rfl, rfl, h3⟩
  · obtain ⟨e1, e2⟩ := textN_inj h1 h3 (h4.symm.trans h2)
    exact ⟨e1, e2, rfl⟩
  · exact absurd h2 (h3 _ _ h1)
  · exact absurd h4 (h1 _ _ h3)
  · exact ⟨rfl, rfl, rfl⟩
theorem NodeRes.q {s0 : List UInt8} {w' : World} {e : Ending} (h : NodeRes s0 w' (.int .i64) e) : ∃ cs us a y a2 y2 k, e = .returned (.tuple #[.agg #[.slice a cs.length y, .slice a2 us.length y2], .int .i64 k]) ∧ NodeAt w' (.agg #[.slice a cs.length y, .slice a2 us.length y2]) cs us ∧ cs.length ≤ 100000 ∧ us.length ≤ 100000 ∧ ResQ s0 cs us k := by
  cases h with
  | yes cs us v h1 h2 h3 h4 =>
    obtain ⟨a, y, a2, y2, rfl⟩ := h4.form'
    exact ⟨cs, us, a, y, a2, y2, 0, h3, h4, by have := h2.kids.len; omega, by have := h2.len; omega, Or.inl ⟨rfl, h2, h1⟩⟩
  | no h1 h2 =>
    exact ⟨[], [], none, 0, none, 0, 4, h2, NodeAt.mk' (slC_row (World.ownsRow_nil w' 0 100 4)).2 (slU_row (World.ownsRow_nil w' 0 67 4)).2, by simp, by simp, Or.inr ⟨rfl, rfl, rfl, h1⟩⟩

set_option maxRecDepth 100000 in
set_option maxHeartbeats 16000000 in
theorem nodeParses_walk (ao : Option Addr) (c : Nat) (l : List Chd) (bo : Option Addr) (d : Nat) (m : List Upd) (raw : List UInt8) (w : World) (hs : SlAt Chd.cells 4 w ao l) (hc : l.length ≤ c) (hm : SlAt Upd.cells 4 w bo m) (hd : m.length ≤ d)
    (hsl : ∀ x ∈ l, x.Wf ∧ x.low.length ≤ 140737488355328) (hml : ∀ x ∈ m, x.Wf ∧ x.key.length ≤ 140737488355328) :
    Calls Try.prog 4 #[.slice ao l.length c, .slice bo m.length d, .string (S raw)] w fun e w' => e = .returned (.bool true) ∧ Below w.heap.size w w' := by
  have hwf : ∀ c ∈ l, c.Wf := fun x hx => (hsl x hx).1
  have HTM := Lib.hid (tame17_any ao c l w hs hc (fun x hx => (hsl x hx).2))
  have HI1 := Lib.hid (tameC_in l m hwf)
  have HF1 := Lib.hid (fun (a : Option Addr) (y : Nat) (w' : World) (h1 : SlAt Chd.cells 4 w' a (tameC l)) (h2 : (tameC l).length ≤ y) (h3 : Below w.heap.size w w') => of17_any a y (tameC l) bo d m w' h1 h2 (hm.kept h3 (Nat.le_refl _)) hd (tameC_lows l hwf) hml)
  rw [ofC_tamed l hwf] at HF1
  generalize withAll (ofUs m) = U at *
  obtain ⟨TC, hTC⟩ : ∃ TC, TC = tameC l := ⟨_, rfl⟩
  rw [← hTC] at HTM HI1 HF1
  clear hs hm hsl hml hwf hTC
  have hmin := fun ts t a b w => run_tmin (P := Try.prog) ts t a b w
  have hmm : tmin (raw.length : Int) 200 = ((min raw.length 200 : Nat) : Int) := tmin_nat _ 200
  have hma : min raw.length 200 ≤ raw.length := Nat.min_le_left _ _
  have hmb : min raw.length 200 ≤ 200 := Nat.min_le_right _ _
  generalize min raw.length 200 = m2 at *
  have hs1 := fun W => take_str raw m2 hma W
  have hrl : (raw.take m2).length ≤ 200 := by rw [List.length_take]; omega
  generalize raw.take m2 = R at *
  clear hma
  go_enter Try.func4, Try.ntmps4
  go_wp2_with fail
  refine HTM.out.mono ?_
  rintro e w1 ⟨⟨ta, ty, rfl, hto⟩, hB1⟩
  have hts := (slC_row hto).2
  obtain ⟨ta', ty', e1, hta, hty, -⟩ := id hts
  simp only [Value.slice.injEq] at e1
  obtain ⟨rfl, -, rfl⟩ := e1
  have HL1 := Lib.hid hB1
  have HF := Lib.hid (HF1.out ta ty w1 hta hty hB1)
  clear hto hts HTM hta hB1 HF1 hmin hmm hs1
  go_wp2_with fail
  refine HF.out.mono ?_
  rintro e w3 ⟨⟨va, vb, rfl, hna, hnb⟩, hB3⟩
  obtain ⟨a1, y1, a2, y2, rfl⟩ := hna.form'
  obtain ⟨a3, y3, a4, y4, rfl⟩ := hnb.form'
  have HNB := Lib.hid hnb
  have HL3 := Lib.hid (HL1.out.trans (hB3.mono HL1.out.size))
  clear hna hnb hB3 HF HL1
  go_upto_region 3 with (fail)
  have NX := Lib.hid (NBox.new (w := w3.alloc (.cells #[.slice a1 TC.length y1, .slice a2 U.length y2] 31)) (b := w3.heap.size + 1) (by simp) (HNB.out.kept ((Below.refl _ _).alloc (Nat.le_refl _) _) (Nat.le_refl _)) 35)
  have HL4 := Lib.hid ((HL3.out.alloc HL3.out.size (.cells #[.slice a1 TC.length y1, .slice a2 U.length y2] 31)).alloc (by have := HL3.out.size; simp; omega) (.cells #[.slice a3 TC.length y3, .slice a4 U.length y4] 35))
  generalize ((w3.alloc (.cells #[.slice a1 TC.length y1, .slice a2 U.length y2] 31)).alloc (.cells #[.slice a3 TC.length y3, .slice a4 U.length y4] 35)) = w4 at *
  have hT : ∃ (T : List UInt8) (te : Int), T.length ≤ 8200 ∧ ∀ w' v, NodeAt w' v TC U → Calls Try.prog 15 #[v] w' fun e w'' => e = .returned (.tuple #[.string (S T), .int .i64 te]) ∧ Below w'.heap.size w' w'' := by
    by_cases hR : RightR TC U
    · exact ⟨textN TC U, 0, textN_len hR.node, fun w' v h => refNodeText_ok v TC U w' h HI1.out hR⟩
    · exact ⟨[], _, by simp, fun w' v h => refNodeText_no v TC U w' h HI1.out hR⟩
  obtain ⟨T, te, hTl, hTx⟩ := hT
  have HTX := Lib.hid hTx
  have n0 := NX.out.c0
  have n1 := NX.out.c1
  clear hTx HI1 HNB HL3 hty
  go_wp2_with fail
  refine (HTX.out w4 _ NX.out.at').mono ?_
  rintro e w5 ⟨rfl, hB5⟩
  have HL5 := Lib.hid (HL4.out.trans (hB5.mono HL4.out.size))
  clear NX HL4 HTX n0 n1 hB5
  generalize w3.heap.size = bx at *
  go_upto_region 4 with (fail)
  obtain ⟨wb, hwb⟩ : ∃ wb, wb = w5 := ⟨_, rfl⟩
  subst hwb
  go_cut [11] (fun s wx => ∃ c2, s = .slice (some ⟨wb.heap.size, 0, none⟩) (T.length + 1) c2 ∧ BytesI wx wb.heap.size (asI (T ++ [120])) ∧ Below wb.heap.size wb wx)
  case first =>
    have hsx : S T ++ (⟨#[120]⟩ : ByteArray) = S (T ++ [120]) := by rw [show (⟨#[120]⟩ : ByteArray) = S [120] from rfl, S_append]
    have hcv := fun W => Lib.run_convert_string_bytes (P := Try.prog) W 9 54 5 (S (T ++ [120])) (u := .string) Try.underlying9 Try.underlying54 Try.underlying5
    go_wp2_with fail
    go_meet
    exact ⟨grownCap wb (T.length + 1) 0 5, by simp, BytesI.new _ _ _, Joins.below_bytesWorld _ _ _ _ (Nat.le_refl _)⟩
  case rest =>
    obtain ⟨c2, rfl, hby, hX⟩ := hcut
    have hTx : (asI (T ++ [120])).length = T.length + 1 := by rw [asI_len]; simp
    have HY0 := Lib.hid hby
    have HX0 := Lib.hid hX
    clear hby hX
    generalize asI (T ++ [120]) = ys0 at *
    go_wp2_with fail
    go_loopw [41] (fun i wr => ∃ (j : Nat) (ys : List Int), i = .int .i64 j ∧ j ≤ R.length ∧ ys.length = T.length + 1 ∧ Hid (BytesI wr wb.heap.size ys) ∧ Hid (Below wb.heap.size wb wr)) (fun i _ => R.length - (intOf i).toNat)
    case atStart => exact ⟨0, ys0, rfl, Nat.zero_le _, hTx, HY0, HX0⟩
    case round =>
      obtain ⟨j, ys, rfl, hj, hys, HY, HX⟩ := hrel
      have hj0 : (0 : Int) ≤ (j : Int) := Int.natCast_nonneg _
      by_cases hjl : j < R.length
      · have hj1 : (j : Int) < (R.length : Int) := by omega
        have hk : (j * 37) % (T.length + 1) < T.length + 1 := Nat.mod_lt _ (Nat.succ_pos _)
        have hki : ((j : Int) * 37) % ((T.length : Int) + 1) = (((j * 37) % (T.length + 1) : Nat) : Int) := by simp
        generalize (j * 37) % (T.length + 1) = k2 at *
        have hy0 := HY.out.cell k2 (by omega)
        have hy1 := HY.out.free k2 (by omega)
        generalize hz : ys[k2]'(by omega) = z at hy0
        clear hz
        go_upto_region 8 with (fail)
        go_region
        all_goals
          go_wp2_with fail
          refine ⟨⟨j + 1, ys.set k2 ?vv, ?_, ?_, ?_, Lib.hid (by first | exact (HY.out.set k2 _).drew | exact HY.out.drew.set k2 _ | exact HY.out.set k2 _), Lib.hid (by first | exact below_drew' (HX.out.setCell (p := ⟨wb.heap.size, k2, none⟩) (Nat.le_refl _) _) | exact (below_drew' HX.out).setCell (p := ⟨wb.heap.size, k2, none⟩) (Nat.le_refl _) _)⟩, ?_⟩
          · first | rfl | go_num
          · omega
          · rw [List.length_set]; exact hys
          · simp [intOf]; omega
      · obtain rfl : j = R.length := by omega
        go_upto_region 10 with (fail)
        have hk : R.length % (T.length + 1) < T.length + 1 := Nat.mod_lt _ (Nat.succ_pos _)
        have hki : (R.length : Int) % ((T.length : Int) + 1) = ((R.length % (T.length + 1) : Nat) : Int) := by rw [Int.natCast_emod, Int.natCast_add]; rfl
        generalize R.length % (T.length + 1) = k2 at *
        have hs2 := fun W => take_str T k2 (by omega) W
        have hc3 := BytesI.str (P := Try.prog) 54 9 5 Try.underlying54 Try.underlying5 Try.underlying9 HY.out (T.length + 1) c2 hys
        have hc4 := BytesI.str (P := Try.prog) 54 9 5 Try.underlying54 Try.underlying5 Try.underlying9 HY.out.drew (T.length + 1) c2 hys
        have hysl : (ys.map fun x => UInt8.ofNat x.toNat).length = T.length + 1 := by rw [List.length_map, hys]
        have htl : (T.take k2).length ≤ 8200 := by rw [List.length_take]; omega
        have hsa : S T ++ S R = S (T ++ R) := S_append T R
        have hcat : ¬ 9223372036854775807 < T.length + R.length := by omega
        have hal : (T ++ R).length ≤ 8400 := by rw [List.length_append]; omega
        generalize (ys.map fun x => UInt8.ofNat x.toNat) = Y at *
        generalize T.take k2 = T2 at *
        have HYL := Lib.hid hysl
        clear hysl hys HY0 HX0 hTx
        obtain ⟨wy, hwy⟩ : ∃ wy, wy = wr := ⟨_, rfl⟩
        subst hwy
        go_cut [73, 74, 75] (fun s s1 s2 wx => s = .slice (some ⟨wy.heap.size, 0, none⟩) 5 5 ∧ s1 = .int .i64 5 ∧ s2 = .int .i64 0 ∧ SlAt (fun t : List UInt8 => [Value.string (S t)]) 1 wx (some ⟨wy.heap.size, 0, none⟩) [R, T, Y, T ++ R, T2] ∧ Below wy.heap.size wy wx)
        case first =>
          go_big_region
          all_goals
            go_wp2_with fail
            go_meet
            exact ⟨rfl, rfl, rfl, SlAt.kept (SlAt.new wy _ _ (0, 0) [R, T, Y, T ++ R, T2] (by simp) (by simp)) (below_drew' (Below.refl _ _)) (Nat.le_refl _), below_drew' ((Below.refl _ _).alloc (Nat.le_refl _) _)⟩
        case rest =>
          obtain ⟨rfl, rfl, rfl, hst, hX7⟩ := hcut
          have HL7 := Lib.hid (HL5.out.trans ((HX.out.trans (hX7.mono HX.out.size)).mono HL5.out.size))
          have hlen5 : ∀ j (h : j < [R, T, Y, T ++ R, T2].length), ([R, T, Y, T ++ R, T2][j]).length ≤ 10000 := fun j h => by
            have h1 := HYL.out
            match j, h with
            | 0, _ => show R.length ≤ 10000; omega
            | 1, _ => show T.length ≤ 10000; omega
            | 2, _ => show Y.length ≤ 10000; omega
            | 3, _ => show (T ++ R).length ≤ 10000; omega
            | 4, _ => show T2.length ≤ 10000; omega
          have HL4 := Lib.hid hlen5
          have hts : [R, T, Y, T ++ R, T2].length = 5 := rfl
          have HST := Lib.hid hst
          clear hst hX7 hlen5 hs2 hc3 hc4 hki hsa hcat HX HY HL5
          generalize [R, T, Y, T ++ R, T2] = ts at *
          have HTS := Lib.hid hts
          clear hts
          go_wp2_with fail
          go_loopw [75] (fun i wr => ∃ j : Nat, i = .int .i64 j ∧ j ≤ 5 ∧ Hid (Below wc.heap.size wc wr)) (fun i _ => 5 - (intOf i).toNat)
          case atStart => exact ⟨0, rfl, Nat.zero_le _, Lib.hid (Below.refl _ _)⟩
          case round =>
            obtain ⟨j, rfl, hj, HBr⟩ := hrel
            have hj0 : (0 : Int) ≤ (j : Int) := Int.natCast_nonneg _
            by_cases hj5 : j < 5
            · have hj1 : (j : Int) < 5 := by omega
              have hjt : j < ts.length := by rw [HTS.out]; exact hj5
              obtain ⟨b, off, e, hb, hcell⟩ := (HST.out.kept HBr.out (Nat.le_refl _)).at (by rw [HTS.out]; omega)
              simp only [Option.some.injEq, Addr.mk.injEq] at e
              obtain ⟨rfl, rfl, -⟩ := e
              have t0 := hcell j hjt 0 _ rfl
              rw [Nat.zero_add, Nat.mul_one, Nat.add_zero] at t0
              have hlj := HL4.out j hjt
              clear hcell
              generalize ts[j] = t at *
              have HP1 := Lib.hid (fun w => nodeParse_any t w hlj)
              have HP2 := Lib.hid (fun w => refNodeParse_any t w hlj)
              go_wp2_with fail
              refine (HP1.out wr).mono ?_
              rintro e w6 ⟨hr1, hB6⟩
              obtain ⟨cs, us, a5, y5, a6, y6, k, rfl, hn1, hcl, hul, hq⟩ := hr1.q
              have HQ := Lib.hid hq
              have HB7 := Lib.hid (HBr.out.trans (hB6.mono HBr.out.size))
              have HN1 := Lib.hid hn1
              clear hr1 hq hn1 hB6 HP1 t0
              obtain ⟨nc, hnc⟩ : ∃ nc, nc = cs.length := ⟨_, rfl⟩
              obtain ⟨nu, hnu⟩ : ∃ nu, nu = us.length := ⟨_, rfl⟩
              go_upto_region 14 with (fail)
              have NA := Lib.hid (NBox.new (w := w6) rfl HN1.out 31)
              have HB8 := Lib.hid (HB7.out.alloc HB7.out.size (.cells #[.slice a5 cs.length y5, .slice a6 us.length y6] 31))
              generalize w6.alloc (.cells #[.slice a5 cs.length y5, .slice a6 us.length y6] 31) = w7 at *
              generalize w6.heap.size = b6 at *
              clear HN1 HB7
              go_wp2_with fail
              refine (HP2.out w7).mono ?_
              rintro e w8 ⟨hr2, hB8⟩
              obtain ⟨cs', us', a7, y7, a8, y8, k', rfl, hn2, -, -, hq2⟩ := hr2.q
              obtain ⟨rfl, rfl, rfl⟩ := HQ.out.unique hq2
              have HN2 := Lib.hid hn2
              have HB9 := Lib.hid (HB8.out.trans (hB8.mono HB8.out.size))
              have NA2 := Lib.hid (NA.out.on hB8)
              clear hr2 hq2 hn2 hB8 HP2 HQ NA HB8
              go_upto_region 15 with (fail)
              have NX := Lib.hid (NBox.new (w := w8) rfl HN2.out 35)
              have NA3 := Lib.hid (NA2.out.on ((Below.refl _ _).alloc (Nat.le_refl _) (.cells #[.slice a7 cs'.length y7, .slice a8 us'.length y8] 35)))
              have HB10 := Lib.hid (HB9.out.alloc HB9.out.size (.cells #[.slice a7 cs'.length y7, .slice a8 us'.length y8] 35))
              generalize w8.alloc (.cells #[.slice a7 cs'.length y7, .slice a8 us'.length y8] 35) = w9 at *
              generalize w8.heap.size = b8 at *
              clear HN2 HB9 NA2
              have n0 := NA3.out.c0
              have n1 := NA3.out.c1
              have x0 := NX.out.c0
              have x1 := NX.out.c1
              have hkk : (k' == k') = true := by simp
              go_wp2_with fail
              refine (same17_any _ _ cs' us' w9 NA3.out.at' NX.out.at' hcl hul).mono ?_
              rintro e w10 ⟨rfl, hB10⟩
              have HB11 := Lib.hid (HB10.out.trans (hB10.mono HB10.out.size))
              clear NA3 NX n0 n1 x0 x1 hB10 HB10
              go_wp2_with fail
              go_roundw
              (case rel => exact ⟨j + 1, by go_num, by omega, HB11⟩)
              (case measure => first | (simp [intOf]; done) | (simp [intOf]; omega))
            · obtain rfl : j = 5 := by omega
              have hBe := HL7.out.trans (HBr.out.mono HL7.out.size)
              go_wp2_with fail
              refine (wakes17 wr).mono ?_
              rintro e w6 ⟨rfl, hB6⟩
              have hbb := hBe.trans (hB6.mono hBe.size)
              go_wp2_with fail
              go_ret
              exact ⟨rfl, hbb⟩

end Go.Proofs.Ytlmlmkeomlehmaa
