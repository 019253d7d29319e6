/-
  The walk of NodeTexts.
-/
import Derived.Test.YtlmlmkeomlehmaaNrb
namespace Go.Proofs.Ytlmlmkeomlehmaa
open Go.RowKit
attribute [local go_sem ↓] Go.wp_at_zero Go.wp_at_succ

theorem ofC_len (l : List Chd) : (ofC l).length ≤ 20 := by unfold ofC; rw [List.length_map, List.length_take]; omega
theorem ofC_in (l : List Chd) (m : List Upd) (hw : ∀ c ∈ l, c.Wf) : NodeIn (ofC l) (withAll (ofUs m)) := by
  obtain ⟨-, hu, hl⟩ := withAll17 m
  refine ⟨by have := ofC_len l; omega, by omega, fun c hc => ?_, fun c hc => ?_, hu⟩
  · obtain ⟨x, hx, rfl⟩ := List.mem_map.1 hc
    have h := hw x (List.mem_of_mem_take hx)
    exact ⟨h.addr, h.gen, h.sum⟩
  · obtain ⟨x, -, rfl⟩ := List.mem_map.1 hc
    show (x.low.take 20).length ≤ _
    rw [List.length_take]; omega
theorem tameC_in (l : List Chd) (m : List Upd) (hw : ∀ c ∈ l, c.Wf) : NodeIn (tameC l) (withAll (ofUs m)) := by
  rw [← ofC_tamed l hw]
  exact ofC_in _ m (fun c hc => by have h := tameC_ok l hw c hc; exact ⟨by have := h.addr; omega, h.gen, h.sum⟩)

set_option maxRecDepth 100000 in
set_option maxHeartbeats 16000000 in
theorem nodeTexts_walk (ao : Option Addr) (c : Nat) (l : List Chd) (bo : Option Addr) (d : Nat) (m : List Upd) (key : List UInt8) (w : World) (hs : SlAt Chd.cells 4 w ao l) (hc : l.length ≤ c) (hm : SlAt Upd.cells 4 w bo m) (hd : m.length ≤ d)
    (hsl : ∀ x ∈ l, x.Wf ∧ x.low.length ≤ 140737488355328) (hml : ∀ x ∈ m, x.Wf ∧ x.key.length ≤ 140737488355328) :
    Calls Try.prog 3 #[.slice ao l.length c, .slice bo m.length d, .string (S key)] w fun e w' => e = .returned (.bool true) ∧ Below w.heap.size w w' := by
  have hwf : ∀ c ∈ l, c.Wf := fun x hx => (hsl x hx).1
  have HTM := Lib.hid (tame17_any ao c l w hs hc (fun x hx => (hsl x hx).2))
  have HI0 := Lib.hid (ofC_in l m hwf)
  have HI1 := Lib.hid (tameC_in l m hwf)
  have HF0 := Lib.hid (fun (w' : World) (h : Below w.heap.size w w') => of17_any ao c l bo d m w' (hs.kept h (Nat.le_refl _)) hc (hm.kept h (Nat.le_refl _)) hd (fun x hx => (hsl x hx).2) hml)
  have HF1 := Lib.hid (fun (a : Option Addr) (y : Nat) (w' : World) (h1 : SlAt Chd.cells 4 w' a (tameC l)) (h2 : (tameC l).length ≤ y) (h3 : Below w.heap.size w w') => of17_any a y (tameC l) bo d m w' h1 h2 (hm.kept h3 (Nat.le_refl _)) hd (tameC_lows l hwf) hml)
  rw [ofC_tamed l hwf] at HF1
  obtain ⟨hur, -, -⟩ := withAll17 m
  generalize withAll (ofUs m) = U at *
  obtain ⟨TC, hTC⟩ : ∃ TC, TC = tameC l := ⟨_, rfl⟩
  obtain ⟨OC, hOC⟩ : ∃ OC, OC = ofC l := ⟨_, rfl⟩
  rw [← hTC] at HTM HI1 HF1
  rw [← hOC] at HI0 HF0
  have HUR := Lib.hid hur
  clear hs hm hsl hml hwf hur hTC hOC
  go_enter Try.func3, Try.ntmps3
  go_wp2_with fail
  refine HTM.out.mono ?_
  rintro e w1 ⟨⟨ta, ty, rfl, hto⟩, hB1⟩
  have hts := (slC_row hto).2
  obtain ⟨ta', ty', e1, hta, hty, -⟩ := id hts
  simp only [Value.slice.injEq] at e1
  obtain ⟨rfl, -, rfl⟩ := e1
  have HL1 := Lib.hid hB1
  have HTA := Lib.hid hta
  clear hto hts HTM hta hB1
  go_upto_region 2 with (fail)
  have hX2 : Below w1.heap.size w1 (w1.alloc (.cells #[.slice ao l.length c, .slice ta TC.length ty] 22)) := by go_grown
  have HRW := Lib.hid (show (w1.alloc (.cells #[.slice ao l.length c, .slice ta TC.length ty] 22)).cell? ⟨w1.heap.size, 0, none⟩ = some (.slice ao l.length c) ∧ (w1.alloc (.cells #[.slice ao l.length c, .slice ta TC.length ty] 22)).cell? ⟨w1.heap.size, 1, none⟩ = some (.slice ta TC.length ty) by refine ⟨?_, ?_⟩ <;> (rw [World.cell?_alloc_at _ _ _ _ rfl]; rfl))
  generalize w1.alloc (.cells #[.slice ao l.length c, .slice ta TC.length ty] 22) = w2 at *
  have HX2 := Lib.hid hX2
  clear hX2
  go_loopw [25] (fun i wr => ∃ j : Nat, i = .int .i64 j ∧ j ≤ 2 ∧ Hid (Below w2.heap.size w2 wr)) (fun i _ => 2 - (intOf i).toNat)
  case atStart => exact ⟨0, rfl, by omega, Lib.hid (Below.refl _ _)⟩
  case round =>
    obtain ⟨j, rfl, hj, HB⟩ := hrel
    have hj0 : (0 : Int) ≤ (j : Int) := Int.natCast_nonneg _
    have HLB := Lib.hid (HL1.out.trans ((HX2.out.trans (HB.out.mono HX2.out.size)).mono HL1.out.size))
    have r0 := kept_cell HB.out HRW.out.1
    have r1 := kept_cell HB.out HRW.out.2
    by_cases hj2 : j = 2
    · subst hj2
      go_wp2_with fail
      refine (wakes17 wr).mono ?_
      rintro e w3 ⟨rfl, hB3⟩
      have hbb := HLB.out.trans (hB3.mono HLB.out.size)
      go_wp2_with fail
      go_ret
      exact ⟨rfl, hbb⟩
    · by_cases hjz : j = 0
      case' pos =>
        subst hjz
        have hpack : ∃ cs, NodeIn cs U ∧ Calls Try.prog 13 #[.slice ao l.length c, .slice bo m.length d] wr fun e w' => (∃ va vb, e = .returned (.tuple #[va, vb]) ∧ NodeAt w' va cs U ∧ NodeAt w' vb cs U) ∧ Below wr.heap.size wr w' := ⟨OC, HI0.out, HF0.out wr HLB.out⟩
        obtain ⟨cs, hin, hf⟩ := hpack
      case' neg =>
        obtain rfl : j = 1 := by omega
        have hpack : ∃ cs, NodeIn cs U ∧ Calls Try.prog 13 #[.slice ta TC.length ty, .slice bo m.length d] wr fun e w' => (∃ va vb, e = .returned (.tuple #[va, vb]) ∧ NodeAt w' va cs U ∧ NodeAt w' vb cs U) ∧ Below wr.heap.size wr w' := ⟨TC, HI1.out, HF1.out ta ty wr (HTA.out.kept (HX2.out.trans (HB.out.mono HX2.out.size)) (Nat.le_refl _)) hty HLB.out⟩
        obtain ⟨cs, hin, hf⟩ := hpack
      all_goals
        have HIN := Lib.hid hin
        have HF := Lib.hid hf
        clear hin hf
        go_wp2_with fail
        refine HF.out.mono ?_
        rintro e w3 ⟨⟨va, vb, rfl, hna, hnb⟩, hB3⟩
        obtain ⟨a1, y1, a2, y2, rfl⟩ := hna.form'
        obtain ⟨a3, y3, a4, y4, rfl⟩ := hnb.form'
        obtain ⟨n, hn⟩ : ∃ n, n = cs.length := ⟨_, rfl⟩
        have HCN := Lib.hid hn
        have HNA := Lib.hid hna
        have HNB := Lib.hid hnb
        have HB3 := Lib.hid (HB.out.trans (hB3.mono HB.out.size))
        clear hna hnb hB3 HF r0 r1
        go_upto_region 5 with (fail)
        have NA := Lib.hid ((NBox.new (b := w3.heap.size) rfl HNA.out 31).on ((Below.refl _ _).alloc (Nat.le_refl _) (.cells #[.slice a3 cs.length y3, .slice a4 U.length y4] 35)))
        have NX := Lib.hid (NBox.new (w := w3.alloc (.cells #[.slice a1 cs.length y1, .slice a2 U.length y2] 31)) (b := w3.heap.size + 1) (by simp) (HNB.out.kept ((Below.refl _ _).alloc (Nat.le_refl _) _) (Nat.le_refl _)) 35)
        have HB4 := Lib.hid ((HB3.out.alloc HB3.out.size (.cells #[.slice a1 cs.length y1, .slice a2 U.length y2] 31)).alloc (by have := HB3.out.size; simp; omega) (.cells #[.slice a3 cs.length y3, .slice a4 U.length y4] 35))
        generalize ((w3.alloc (.cells #[.slice a1 cs.length y1, .slice a2 U.length y2] 31)).alloc (.cells #[.slice a3 cs.length y3, .slice a4 U.length y4] 35)) = w4 at *
        rw [← hn]
        clear HNA HNB HB3 hn
        -- what both texts answer
        have hans : ∃ (tS : List UInt8) (te : Int) (rb : Bool), (∀ w' v, NodeAt w' v cs U → Calls Try.prog 14 #[v] w' fun e w'' => e = .returned (.tuple #[.string (S tS), .int .i64 te]) ∧ Below w'.heap.size w' w'') ∧ (∀ w' v, NodeAt w' v cs U → Calls Try.prog 15 #[v] w' fun e w'' => e = .returned (.tuple #[.string (S tS), .int .i64 te]) ∧ Below w'.heap.size w' w'') ∧ (∀ w' v, NodeAt w' v cs U → Calls Try.prog 16 #[v] w' fun e w'' => e = .returned (.bool rb) ∧ Below w'.heap.size w' w'') ∧ (∀ w' v, NodeAt w' v cs U → Calls Try.prog 17 #[v] w' fun e w'' => e = .returned (.bool rb) ∧ Below w'.heap.size w' w'') := by
          by_cases hr : RightN cs U
          · have hR : RightR cs U := ⟨hr, HUR.out⟩
            refine ⟨textN cs U, 0, true, fun w' v h => nodeText_ok v cs U w' h HIN.out hr, fun w' v h => refNodeText_ok v cs U w' h HIN.out hR, fun w' v h => (nodeRight_any v cs U w' h HIN.out).mono ?_, fun w' v h => (refRight_any v cs U w' h HIN.out).mono ?_⟩
            · rintro e w'' ⟨⟨r, rfl, hrr⟩, hb⟩
              exact ⟨by rw [hrr.2 hr], hb⟩
            · rintro e w'' ⟨⟨r, rfl, hrr⟩, hb⟩
              exact ⟨by rw [hrr.2 hR], hb⟩
          · have hR : ¬ RightR cs U := fun h => hr h.n
            refine ⟨[], 2, false, fun w' v h => nodeText_no v cs U w' h HIN.out hr, fun w' v h => refNodeText_no v cs U w' h HIN.out hR, fun w' v h => (nodeRight_any v cs U w' h HIN.out).mono ?_, fun w' v h => (refRight_any v cs U w' h HIN.out).mono ?_⟩
            · rintro e w'' ⟨⟨r, rfl, hrr⟩, hb⟩
              have : r = false := by cases r; rfl; exact absurd (hrr.1 rfl) hr
              exact ⟨by rw [this], hb⟩
            · rintro e w'' ⟨⟨r, rfl, hrr⟩, hb⟩
              have : r = false := by cases r; rfl; exact absurd (hrr.1 rfl) hR
              exact ⟨by rw [this], hb⟩
        obtain ⟨tS, te, rb, hT1, hT2, hR1, hR2⟩ := hans
        have HT1 := Lib.hid hT1
        have HT2 := Lib.hid hT2
        have HR1 := Lib.hid hR1
        have HR2 := Lib.hid hR2
        clear hT1 hT2 hR1 hR2
        have k0 := NA.out.c0
        have k1 := NA.out.c1
        rw [← HCN.out] at k0
        go_wp2_with fail
        refine (HT1.out w4 (.agg #[.slice a1 n y1, .slice a2 U.length y2]) (by have := NA.out.at'; rw [← HCN.out] at this; exact this)).mono ?_
        rintro e w5 ⟨rfl, hB5⟩
        have NA5 := Lib.hid (NA.out.on hB5)
        have NX5 := Lib.hid (NX.out.on hB5)
        have HB5 := Lib.hid (HB4.out.trans (hB5.mono HB4.out.size))
        clear hB5 NA NX HB4 k0 k1
        have k0 := NX5.out.c0
        have k1 := NX5.out.c1
        rw [← HCN.out] at k0
        go_wp2_with fail
        refine (HT2.out w5 (.agg #[.slice a3 n y3, .slice a4 U.length y4]) (by have := NX5.out.at'; rw [← HCN.out] at this; exact this)).mono ?_
        rintro e w6 ⟨rfl, hB6⟩
        have NA6 := Lib.hid (NA5.out.on hB6)
        have NX6 := Lib.hid (NX5.out.on hB6)
        have HB6 := Lib.hid (HB5.out.trans (hB6.mono HB5.out.size))
        clear hB6 NA5 NX5 HB5 k0 k1
        have k0 := NA6.out.c0
        have k1 := NA6.out.c1
        have m0 := NX6.out.c0
        have m1 := NX6.out.c1
        rw [← HCN.out] at k0 m0
        have hnl : cs.length ≤ 1000 := HIN.out.lenC
        go_upto_region 7 with (fail)
        have HNa := Lib.hid (show NodeAt w6 (.agg #[.slice a1 n y1, .slice a2 U.length y2]) cs U by have := NA6.out.at'; rw [← HCN.out] at this; exact this)
        have HNx := Lib.hid (show NodeAt w6 (.agg #[.slice a3 n y3, .slice a4 U.length y4]) cs U by have := NX6.out.at'; rw [← HCN.out] at this; exact this)
        refine WQ.region (C := fun w' => Below w6.heap.size w6 w') (by kernel_rfl) (by kernel_rfl) (below_drew' (Below.refl _ _)) ?_
        refine WQ.want (by rfl) (fun K hK => ?_)
        refine ⟨.agg #[.slice a1 n y1, .slice a2 U.length y2], fun w' hw' => ?_, hK _ ?_⟩
        · have hq' := hw'
          have z0 := kept_cell hw' k0; have z1 := kept_cell hw' k1; have z2 := kept_cell hw' m0; have z3 := kept_cell hw' m1; go_simp
        clear hK K
        (try simp only [Act.put, List.setIfInBounds_toArray, List.set_cons_zero, List.set_cons_succ])
        refine WQ.want (by rfl) (fun K hK => ?_)
        refine ⟨.bool rb, fun w' hw' => ?_, hK _ ?_⟩
        · have hq' := hw'
          go_simp
          go_at_call 16
          refine (HR1.out _ _ (HNa.out.kept hq' (Nat.le_refl _))).mono ?_
          rintro e w6 ⟨he, hb6⟩
          exact ⟨he, hq'.trans (hb6.mono hq'.size)⟩
        clear hK K
        (try simp only [Act.put, List.setIfInBounds_toArray, List.set_cons_zero, List.set_cons_succ])
        refine WQ.want (by rfl) (fun K hK => ?_)
        refine ⟨.agg #[.slice a3 n y3, .slice a4 U.length y4], fun w' hw' => ?_, hK _ ?_⟩
        · have hq' := hw'
          have z0 := kept_cell hw' k0; have z1 := kept_cell hw' k1; have z2 := kept_cell hw' m0; have z3 := kept_cell hw' m1; go_simp
        clear hK K
        (try simp only [Act.put, List.setIfInBounds_toArray, List.set_cons_zero, List.set_cons_succ])
        refine WQ.want (by rfl) (fun K hK => ?_)
        refine ⟨.bool rb, fun w' hw' => ?_, hK _ ?_⟩
        · have hq' := hw'
          go_simp
          go_at_call 17
          refine (HR2.out _ _ (HNx.out.kept hq' (Nat.le_refl _))).mono ?_
          rintro e w6 ⟨he, hb6⟩
          exact ⟨he, hq'.trans (hb6.mono hq'.size)⟩
        clear hK K
        (try simp only [Act.put, List.setIfInBounds_toArray, List.set_cons_zero, List.set_cons_succ])
        refine WQ.want (by rfl) (fun K hK => ?_)
        refine ⟨.bool false, fun w' hw' => ?_, hK _ ?_⟩
        · have hq' := hw'
          go_simp
        clear hK K
        (try simp only [Act.put, List.setIfInBounds_toArray, List.set_cons_zero, List.set_cons_succ])
        refine WQ.want (by rfl) (fun K hK => ?_)
        refine ⟨.bool false, fun w' hw' => ?_, hK _ ?_⟩
        · have hq' := hw'
          go_simp
        clear hK K
        (try simp only [Act.put, List.setIfInBounds_toArray, List.set_cons_zero, List.set_cons_succ])
        refine WQ.want (by rfl) (fun K hK => ?_)
        refine ⟨.string (S tS), fun w' hw' => ?_, hK _ ?_⟩
        · have hq' := hw'
          go_simp
        clear hK K
        (try simp only [Act.put, List.setIfInBounds_toArray, List.set_cons_zero, List.set_cons_succ])
        refine WQ.want (by rfl) (fun K hK => ?_)
        refine ⟨.string (S tS), fun w' hw' => ?_, hK _ ?_⟩
        · have hq' := hw'
          go_simp
        clear hK K
        (try simp only [Act.put, List.setIfInBounds_toArray, List.set_cons_zero, List.set_cons_succ])
        refine WQ.want (by rfl) (fun K hK => ?_)
        refine ⟨.bool false, fun w' hw' => ?_, hK _ ?_⟩
        · have hq' := hw'
          go_simp
        clear hK K
        (try simp only [Act.put, List.setIfInBounds_toArray, List.set_cons_zero, List.set_cons_succ])
        refine WQ.want (by rfl) (fun K hK => ?_)
        refine ⟨.bool false, fun w' hw' => ?_, hK _ ?_⟩
        · have hq' := hw'
          go_simp
        clear hK K
        (try simp only [Act.put, List.setIfInBounds_toArray, List.set_cons_zero, List.set_cons_succ])
        refine WQ.want (by rfl) (fun K hK => ?_)
        refine ⟨.bool false, fun w' hw' => ?_, hK _ ?_⟩
        · have hq' := hw'
          go_simp
        clear hK K
        (try simp only [Act.put, List.setIfInBounds_toArray, List.set_cons_zero, List.set_cons_succ])
        refine WQ.want (by rfl) (fun K hK => ?_)
        refine ⟨.int .i64 te, fun w' hw' => ?_, hK _ ?_⟩
        · have hq' := hw'
          go_simp
        clear hK K
        (try simp only [Act.put, List.setIfInBounds_toArray, List.set_cons_zero, List.set_cons_succ])
        refine WQ.want (by rfl) (fun K hK => ?_)
        refine ⟨.int .i64 te, fun w' hw' => ?_, hK _ ?_⟩
        · have hq' := hw'
          go_simp
        clear hK K
        (try simp only [Act.put, List.setIfInBounds_toArray, List.set_cons_zero, List.set_cons_succ])
        refine WQ.want (by rfl) (fun K hK => ?_)
        refine ⟨.bool false, fun w' hw' => ?_, hK _ ?_⟩
        · have hq' := hw'
          go_simp
        clear hK K
        (try simp only [Act.put, List.setIfInBounds_toArray, List.set_cons_zero, List.set_cons_succ])
        refine WQ.want (by rfl) (fun K hK => ?_)
        refine ⟨.bool false, fun w' hw' => ?_, hK _ ?_⟩
        · have hq' := hw'
          go_simp
        clear hK K
        (try simp only [Act.put, List.setIfInBounds_toArray, List.set_cons_zero, List.set_cons_succ])
        refine WQ.want (by rfl) (fun K hK => ?_)
        refine ⟨.bool false, fun w' hw' => ?_, hK _ ?_⟩
        · have hq' := hw'
          go_simp
        clear hK K
        (try simp only [Act.put, List.setIfInBounds_toArray, List.set_cons_zero, List.set_cons_succ])
        refine WQ.want (by rfl) (fun K hK => ?_)
        refine ⟨.agg #[.slice a1 n y1, .slice a2 U.length y2], fun w' hw' => ?_, hK _ ?_⟩
        · have hq' := hw'
          have z0 := kept_cell hw' k0; have z1 := kept_cell hw' k1; have z2 := kept_cell hw' m0; have z3 := kept_cell hw' m1; go_simp
        clear hK K
        (try simp only [Act.put, List.setIfInBounds_toArray, List.set_cons_zero, List.set_cons_succ])
        refine WQ.want (by rfl) (fun K hK => ?_)
        refine ⟨.string (S key), fun w' hw' => ?_, hK _ ?_⟩
        · have hq' := hw'
          go_simp
        clear hK K
        (try simp only [Act.put, List.setIfInBounds_toArray, List.set_cons_zero, List.set_cons_succ])
        refine WQ.want (by rfl) (fun K hK => ?_)
        refine ⟨.int .i64 (chOf cs key), fun w' hw' => ?_, hK _ ?_⟩
        · have hq' := hw'
          go_simp
          go_at_call 18
          refine (child_any _ cs U key _ (HNa.out.kept hq' (Nat.le_refl _)) hnl).mono ?_
          rintro e w6 ⟨he, hb6⟩
          exact ⟨he, hq'.trans (hb6.mono hq'.size)⟩
        clear hK K
        (try simp only [Act.put, List.setIfInBounds_toArray, List.set_cons_zero, List.set_cons_succ])
        refine WQ.want (by rfl) (fun K hK => ?_)
        refine ⟨.agg #[.slice a3 n y3, .slice a4 U.length y4], fun w' hw' => ?_, hK _ ?_⟩
        · have hq' := hw'
          have z0 := kept_cell hw' k0; have z1 := kept_cell hw' k1; have z2 := kept_cell hw' m0; have z3 := kept_cell hw' m1; go_simp
        clear hK K
        (try simp only [Act.put, List.setIfInBounds_toArray, List.set_cons_zero, List.set_cons_succ])
        refine WQ.want (by rfl) (fun K hK => ?_)
        refine ⟨.string (S key), fun w' hw' => ?_, hK _ ?_⟩
        · have hq' := hw'
          go_simp
        clear hK K
        (try simp only [Act.put, List.setIfInBounds_toArray, List.set_cons_zero, List.set_cons_succ])
        refine WQ.want (by rfl) (fun K hK => ?_)
        refine ⟨.int .i64 (chOf cs key), fun w' hw' => ?_, hK _ ?_⟩
        · have hq' := hw'
          go_simp
          go_at_call 19
          refine (refChild_any _ cs U key _ (HNx.out.kept hq' (Nat.le_refl _)) hnl).mono ?_
          rintro e w6 ⟨he, hb6⟩
          exact ⟨he, hq'.trans (hb6.mono hq'.size)⟩
        clear hK K
        (try simp only [Act.put, List.setIfInBounds_toArray, List.set_cons_zero, List.set_cons_succ])
        refine WQ.want (by rfl) (fun K hK => ?_)
        refine ⟨.bool false, fun w' hw' => ?_, hK _ ?_⟩
        · have hq' := hw'
          go_simp
        clear hK K
        (try simp only [Act.put, List.setIfInBounds_toArray, List.set_cons_zero, List.set_cons_succ])
        refine WQ.want (by rfl) (fun K hK => ?_)
        refine ⟨.bool false, fun w' hw' => ?_, hK _ ?_⟩
        · have hq' := hw'
          go_simp
        clear hK K
        (try simp only [Act.put, List.setIfInBounds_toArray, List.set_cons_zero, List.set_cons_succ])
        refine WQ.done ?_
        rintro w7 hX7
        have NA7 := Lib.hid (NA6.out.on hX7)
        have NX7 := Lib.hid (NX6.out.on hX7)
        have HB7 := Lib.hid (HB6.out.trans (hX7.mono HB6.out.size))
        clear hX7 NA6 NX6 HB6 k0 k1 m0 m1 HNa HNx HT1 HT2 HR1 HR2
        generalize chOf cs key = ck at *
        have hn1000 : n ≤ 1000 := by rw [HCN.out]; exact hnl
        go_wp2_with fail
        go_loopw [15] (fun i wr => ∃ z : Int, i = .int .i64 z ∧ -1 ≤ z ∧ z ≤ (n : Int) + 1 ∧ Hid (NBox wr w3.heap.size cs U a1 y1 a2 y2) ∧ Hid (NBox wr (w3.heap.size + 1) cs U a3 y3 a4 y4) ∧ Hid (Below w2.heap.size w2 wr)) (fun i _ => ((n : Int) + 1 - intOf i).toNat)
        case atStart => exact ⟨-1, rfl, by omega, by omega, NA7, NX7, HB7⟩
        case round =>
          obtain ⟨z, rfl, hz0, hz1, NA, NX, HB⟩ := hrel
          have k0 := NA.out.c0
          have k1 := NA.out.c1
          have m0 := NX.out.c0
          have m1 := NX.out.c1
          rw [← HCN.out] at k0 m0
          by_cases hzn : z ≤ (n : Int)
          · have HRG := Lib.hid (fun w' h => range_any (.agg #[.slice a1 n y1, .slice a2 U.length y2]) cs U z w' h hnl (by omega))
            have HNa := Lib.hid (show NodeAt wr (.agg #[.slice a1 n y1, .slice a2 U.length y2]) cs U by have := NA.out.at'; rw [← HCN.out] at this; exact this)
            have hcase : (∃ q : Nat, z = q ∧ q < n) ∨ z < 0 ∨ z = n := by
              by_cases h : z < 0
              · exact Or.inr (Or.inl h)
              · obtain ⟨q, rfl⟩ := Int.eq_ofNat_of_zero_le (show 0 ≤ z by omega)
                by_cases hq : q < n
                · exact Or.inl ⟨q, rfl, hq⟩
                · exact Or.inr (Or.inr (by omega))
            have hwz : IntKind.i64.wrap (z + 1) = z + 1 := IntWalk.i64_in _ (by omega)
            rcases hcase with ⟨q, rfl, hq⟩ | hzneg | hzn'
            · have hql : q < cs.length := by rw [← HCN.out]; exact hq
              have hq0 : (0 : Int) ≤ (q : Int) := Int.natCast_nonneg _
              have hq1 : (q : Int) < (n : Int) := by omega
              obtain ⟨b0, off, e0, hb, t0, -, -, -⟩ := NX.out.at'.parts.1.at.cells4C q hql
              subst e0
              have HLO := Lib.hid (show rngLow cs (q : Int) = cs[q].low by unfold rngLow; rw [if_neg (by omega), Int.toNat_natCast, List.getElem?_eq_getElem hql]; rfl)
              by_cases hq2 : q + 1 < cs.length
              · obtain ⟨b1, off1, e1, hb1, u0, -, -, -⟩ := NX.out.at'.parts.1.at.cells4C (q + 1) hq2
                simp only [Option.some.injEq, Addr.mk.injEq, and_true] at e1
                obtain ⟨rfl, rfl⟩ := e1
                have HHI := Lib.hid (show rngHigh cs (q : Int) = cs[q + 1].low by unfold rngHigh; rw [if_neg (by omega), Int.toNat_natCast, if_pos hql, List.getElem?_eq_getElem hq2]; rfl)
                have hq3 : (q : Int) + 1 < (n : Int) := by rw [HCN.out]; omega
                generalize cs[q].low = lo at *
                generalize cs[q + 1].low = hi at *
                go_wp2_with fail
                refine (HRG.out wr HNa.out).mono ?_
                rintro e w8 ⟨rfl, hB8⟩
                have NA8 := Lib.hid (NA.out.on hB8)
                have NX8 := Lib.hid (NX.out.on hB8)
                have HB8 := Lib.hid (HB.out.trans (hB8.mono HB.out.size))
                clear hB8 NA NX HB k0 k1 m0 m1 HNa
                rw [HLO.out, HHI.out]
                go_wp2_with fail
                exact ⟨⟨_, by go_num, by omega, by omega, NA8, NX8, HB8⟩, by simp [intOf]; omega⟩
              · have HHI := Lib.hid (show rngHigh cs (q : Int) = [] by unfold rngHigh; rw [if_neg (by omega), Int.toNat_natCast, if_pos hql, List.getElem?_eq_none (by omega)]; rfl)
                have hq3 : ¬ (q : Int) + 1 < (n : Int) := by rw [HCN.out]; omega
                generalize cs[q].low = lo at *
                go_wp2_with fail
                refine (HRG.out wr HNa.out).mono ?_
                rintro e w8 ⟨rfl, hB8⟩
                have NA8 := Lib.hid (NA.out.on hB8)
                have NX8 := Lib.hid (NX.out.on hB8)
                have HB8 := Lib.hid (HB.out.trans (hB8.mono HB.out.size))
                clear hB8 NA NX HB k0 k1 m0 m1 HNa
                rw [HLO.out, HHI.out]
                go_wp2_with fail
                exact ⟨⟨_, by go_num, by omega, by omega, NA8, NX8, HB8⟩, by simp [intOf]; omega⟩
            · have HLO := Lib.hid (show rngLow cs z = [] by unfold rngLow; rw [if_pos hzneg])
              have HHI := Lib.hid (show rngHigh cs z = [] by unfold rngHigh; rw [if_pos hzneg])
              have hzneg' : ¬ 0 ≤ z := by omega
              go_wp2_with fail
              refine (HRG.out wr HNa.out).mono ?_
              rintro e w8 ⟨rfl, hB8⟩
              have NA8 := Lib.hid (NA.out.on hB8)
              have NX8 := Lib.hid (NX.out.on hB8)
              have HB8 := Lib.hid (HB.out.trans (hB8.mono HB.out.size))
              clear hB8 NA NX HB k0 k1 m0 m1 HNa
              rw [HLO.out, HHI.out]
              go_wp2_with fail
              exact ⟨⟨_, by go_num, by omega, by omega, NA8, NX8, HB8⟩, by simp [intOf]; omega⟩
            · subst hzn'
              have HLO := Lib.hid (show rngLow cs (n : Int) = [] by unfold rngLow; rw [if_neg (by omega), Int.toNat_natCast, List.getElem?_eq_none (by have := HCN.out; omega)]; rfl)
              have HHI := Lib.hid (show rngHigh cs (n : Int) = [] by unfold rngHigh; rw [if_neg (by omega), Int.toNat_natCast, if_neg (by have := HCN.out; omega)])
              have hn0 : (0 : Int) ≤ (n : Int) := Int.natCast_nonneg _
              have hnn : ¬ (n : Int) < (n : Int) := by omega
              have hnn1 : ¬ (n : Int) + 1 < (n : Int) := by omega
              go_wp2_with fail
              refine (HRG.out wr HNa.out).mono ?_
              rintro e w8 ⟨rfl, hB8⟩
              have NA8 := Lib.hid (NA.out.on hB8)
              have NX8 := Lib.hid (NX.out.on hB8)
              have HB8 := Lib.hid (HB.out.trans (hB8.mono HB.out.size))
              clear hB8 NA NX HB k0 k1 m0 m1 HNa
              rw [HLO.out, HHI.out]
              go_wp2_with fail
              exact ⟨⟨_, by go_num, by omega, by omega, NA8, NX8, HB8⟩, by simp [intOf]⟩
          · obtain rfl : z = n + 1 := by omega
            have hbx := HB.out
            go_wp2_with fail
            first | exact ⟨⟨1, by go_num, by omega, Lib.hid hbx⟩, by simp [intOf]⟩ | exact ⟨⟨2, by go_num, by omega, Lib.hid hbx⟩, by simp [intOf]⟩

end Go.Proofs.Ytlmlmkeomlehmaa
