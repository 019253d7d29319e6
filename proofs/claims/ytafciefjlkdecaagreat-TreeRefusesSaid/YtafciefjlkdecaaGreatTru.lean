/-
  The walk of a scan where every load gives the same: there is no leaf.
-/
import Derived.Test.YtafciefjlkdecaaGreatTrt
import Derived.Test.YtafciefjlkdecaaGreatTrg
namespace Go.Proofs.YtafciefjlkdecaaGreat
open Go.RowKit
attribute [local go_sem ↓] Go.wp_at_zero Go.wp_at_succ

theorem okay_fine {us : List Upd} (h : ∀ u ∈ us, Okay u) : Fine us := fun u hu => ⟨(h u hu).wf, by have := (h u hu).vlen; omega⟩

theorem SlU.at {w : World} {a : Option Addr} {n c : Nat} {l : List Upd} (h : SlU w (.slice a n c) l) : SlAt Upd.cells 4 w a l := by
  obtain ⟨ao, c', e, hs, -⟩ := h
  simp only [Value.slice.injEq] at e
  obtain ⟨rfl, -, -⟩ := e
  exact hs

set_option maxRecDepth 100000 in
set_option maxHeartbeats 16000000 in
theorem vertex_deep {tb : Nat} {F B L : Int} {fid : FuncId} {xs ys : Array Value} {root : Nat} {h' : Int} {gone : Value} {fl le : Int} {sb : Nat} {most : Int} (pay : List UInt8) (hp : pay.length ≤ 10000) (hm : 0 < most) : ∀ (h : Nat), 1 ≤ h → ∀ (vb : Nat) (qa : Int) (qg qs : Nat) (b : Option Addr) (m d : Nat) (us : List Upd) (w : World),
    TrAt w tb F B L (.func (.func fid) xs ys) root h' gone fl le → ScAt w sb tb most (.slice none 0 0) → VxAt w vb true qa qg qs false (.slice none 0 0) (.slice none 0 0) (.slice none 0 0) (.slice none 0 0) → LoadAll fid xs ys 5 pay w → BoxU w (.agg #[.slice b m d]) us → Rising Upd.key us → Fine us → us.length + 64 * h ≤ 5000 →
    Calls Tryz.prog 43 #[.pointer (some ⟨sb, 0, none⟩), .pointer (some ⟨vb, 0, none⟩), .int .i64 h, .agg #[.slice b m d]] w fun e w' => e = .returned (.int .i64 10) ∧ Below w.heap.size w w' := by
  intro h
  induction h with
  | zero => intro h1; omega
  | succ h ih =>
    intro h1 vb qa qg qs b m d us w ht hs hv hl hu hr hfi hlen
    by_cases h0 : h = 0
    · subst h0
      exact vertex_fail w hs (fun w1 hb => fetch_kind 5 pay ((0 + 1 : Nat) : Int) w1 (ht.on hb) (hv.on hb) ((hl qa qg qs).mono hb) (by omega) (fun _ => by omega) (fun e => by omega)) (by decide)
    · have hb0 := Below.refl w.heap.size w
      have HS := Lib.hid hs
      have HU := Lib.hid hu
      have HT := Lib.hid ht
      have HV := Lib.hid hv
      have HL := Lib.hid hl
      have HR := Lib.hid hr
      have HFI := Lib.hid hfi
      have IH := Lib.hid ih
      clear hs hu ht hv hl hr hfi ih
      go_enter Tryz.func43, Tryz.ntmps43
      go_upto_region 1 with (fail)
      obtain ⟨W, hW_W⟩ : ∃ W, W = (w.alloc (.cells #[.slice b m d] 103)) := ⟨_, rfl⟩
      rw [← hW_W]
      have hX_W : Below w.heap.size w W := by rw [hW_W]; go_grown
      have gu0 : W.cell? ⟨w.heap.size, 0, none⟩ = some (.slice b m d) := by rw [hW_W, World.cell?_alloc_at _ _ _ _ (by simp)]; rfl
      clear hW_W
      have hz_W := hX_W.size
      replace HS := Lib.hid (HS.out.kept hX_W (Nat.le_refl _))
      replace HU := Lib.hid (HU.out.kept hX_W (Nat.le_refl _))
      replace HT := Lib.hid (HT.out.kept hX_W (Nat.le_refl _))
      replace HV := Lib.hid (HV.out.kept hX_W (Nat.le_refl _))
      replace hb0 := hb0.trans (hX_W.mono hb0.size)
      clear hX_W
      have c0 := HS.out.c0
      have hne : (((h + 1 : Nat) : Int) == 1) = false := by simp; omega
      go_wp2_with fail
      refine (thread (fetch_node 5 pay ((h + 1 : Nat) : Int) W HT.out HV.out ((HL.out qa qg qs).mono hb0) rfl (by omega) hp) W.heap.size W (Below.refl _ _) (Nat.le_refl _)).mono ?_
      rintro e w2 ⟨hres, hX2, -, -, -, hz⟩
      clear c0
      replace gu0 := kept_cell hX2 gu0
      replace HS := Lib.hid (HS.out.kept hX2 (Nat.le_refl _))
      replace HU := Lib.hid (HU.out.kept hX2 (Nat.le_refl _))
      replace HT := Lib.hid (HT.out.kept hX2 (Nat.le_refl _))
      replace HV := Lib.hid (HV.out.kept hX2 (Nat.le_refl _))
      replace hb0 := hb0.trans (hX2.mono hb0.size)
      clear hX2
      rcases hres with ⟨N, ob, cs, us', ks, a1, c1, a2, c2, a3, c3, hN, hgot⟩ | ⟨-, rfl⟩
      · obtain ⟨rfl, -, hok, hob, hvx, hnd, hrw, hrc, hru, hlenk, hkid⟩ := hgot
        have hcl := hok.kids.len
        have hul := hok.len
        obtain ⟨kb, hkb, hkn, hNk⟩ := hkid 0 _ (List.getElem?_eq_getElem hcl.1)
        have HOK := Lib.hid hok
        have HVX := Lib.hid hvx
        have HND := Lib.hid hnd
        have HRW := Lib.hid hrw
        have HKN := Lib.hid hkn
        have HKB := Lib.hid hkb
        have v7 := hvx.c7
        generalize cs[0] = kc at *
        clear hok hvx hnd hrw hrc hru hkn hkb hkid hlenk HV
        go_upto_region 8 with (fail)
        obtain ⟨ab, hab⟩ : ∃ ab, ab = w2.heap.size := ⟨_, rfl⟩
        obtain ⟨W3, hW3⟩ : ∃ W3, W3 = w2.alloc (.cells #[.slice a2 us'.length c2] 103) := ⟨_, rfl⟩
        have hX3 : Below w2.heap.size w2 W3 := by rw [hW3]; go_grown
        have HA := Lib.hid (show RowIs W3 103 ab [.slice a2 us'.length c2] by rw [hW3, hab]; exact RowIs.new _ _ [.slice a2 us'.length c2])
        have hobA : ob < ab := by rw [hab]; exact HVX.out.lt
        have hsbA : sb < ab := by rw [hab]; exact HS.out.lt
        have htbA : tb < ab := by rw [hab]; exact HT.out.lt
        have hkbA : kb < ab := by rw [hab]; exact HKN.out.lt
        have hrwA := HRW.out.lt
        rw [← hab] at hrwA
        have HRWA := Lib.hid hrwA
        have HZA := Lib.hid (show w.heap.size ≤ ab by rw [hab]; exact hb0.size)
        clear hrwA v7
        replace gu0 := kept_cell hX3 gu0
        replace HS := Lib.hid (HS.out.kept hX3 (Nat.le_refl _))
        replace HU := Lib.hid (HU.out.kept hX3 (Nat.le_refl _))
        replace HT := Lib.hid (HT.out.kept hX3 (Nat.le_refl _))
        replace HVX := Lib.hid (HVX.out.kept hX3 (Nat.le_refl _))
        replace HND := Lib.hid (HND.out.kept hX3 (Nat.le_refl _))
        replace HKN := Lib.hid (HKN.out.kept hX3 (Nat.le_refl _))
        replace hb0 := hb0.trans (hX3.mono hb0.size)
        replace HRW := Lib.hid (own_below HRW.out hX3)
        rw [← hW3]
        rw [← hab] at *
        clear hW3 hX3
        have habW := HA.out.lt
        go_wp2_with fail
        refine (listU (.agg #[.slice b m d]) us W3 HU.out (by omega)).mono ?_
        rintro e w4 ⟨⟨v', rfl, hown⟩, hX4⟩
        obtain ⟨la, lc, rfl⟩ := own_form hown
        have HLR := Lib.hid hown
        replace HRW := Lib.hid (own_below HRW.out hX4)
        replace HA := Lib.hid (HA.out.on hX4)
        clear hown gu0
        replace HS := Lib.hid (HS.out.kept hX4 (Nat.le_refl _))
        replace HT := Lib.hid (HT.out.kept hX4 (Nat.le_refl _))
        replace HVX := Lib.hid (HVX.out.kept hX4 (Nat.le_refl _))
        replace HND := Lib.hid (HND.out.kept hX4 (Nat.le_refl _))
        replace HKN := Lib.hid (HKN.out.kept hX4 (Nat.le_refl _))
        replace hb0 := hb0.trans (hX4.mono hb0.size)
        clear hX4
        have HLRA := Lib.hid (fun g e => (HLR.out.lt g e).1)
        have hzab := HZA.out
        go_wp2_with fail
        go_loopw [53] (fun i wr => ∃ (j : Nat) (A : List Upd) (qa : Option Addr) (qc : Nat), i = .int .i64 j ∧ j ≤ us.length ∧ A.length ≤ us'.length + j ∧ Hid (Rising Upd.key A ∧ Fine A) ∧ Hid (RowIs wr 103 ab [.slice qa A.length qc]) ∧ Hid (BoxU wr (.agg #[.slice qa A.length qc]) A) ∧ Keep (fun x => x = ab) w4 wr) (fun i _ => us.length - (intOf i).toNat)
        case atStart => exact ⟨0, us', a2, c2, rfl, Nat.zero_le _, by omega, Lib.hid ⟨HOK.out.rising, okay_fine HOK.out.ok⟩, HA, Lib.hid ⟨_, rfl, HND.out.parts.2⟩, Keep.refl _ _⟩
        case round =>
          obtain ⟨j, A, qa, qc, rfl, hj, hAl, HAF, HAR, HAB, hK⟩ := hrel
          have hj0 : (0 : Int) ≤ (j : Int) := Int.natCast_nonneg _
          by_cases hju : j < us.length
          · have hj1 : (j : Int) < (us.length : Int) := by omega
            have hLr := own_keep HLR.out hK (fun g e q => by subst q; have := HLRA.out _ e; omega)
            obtain ⟨b0, off, ea, hb, t0, t1, t2, t3⟩ := SlAt.cells4 (SlU.at (slU_row hLr).2) j hju
            subst ea
            obtain ⟨hwf, hvl⟩ := HFI.out _ (List.getElem_mem hju)
            generalize us[j] = u at *
            obtain ⟨kd, key, val, dl⟩ := u
            dsimp only at t0 t1 t2 t3 hvl
            have HW := Lib.hid (fun w' h => with_any (.agg #[.slice qa A.length qc]) A kd key val dl w' h (by omega) HAF.out.1 HAF.out.2 hwf.1 hwf.2)
            have HA2 := Lib.hid (And.intro (withL_rising HAF.out.1 ⟨kd, key, val, dl⟩) (withL_fine HAF.out.1 HAF.out.2 ⟨kd, key, val, dl⟩ ⟨hwf, hvl⟩))
            have hAl2 := withL_len HAF.out.1 ⟨kd, key, val, dl⟩
            go_upto_region 11 with (fail)
            obtain ⟨W5, hW5⟩ : ∃ W5, W5 = wr.alloc (.cells #[.int .u8 kd, .string (S key), .string (S val), .int .u64 dl] 39) := ⟨_, rfl⟩
            have hX5 : Below wr.heap.size wr W5 := by rw [hW5]; go_grown
            have g0 : W5.cell? ⟨wr.heap.size, 0, none⟩ = some (.int .u8 kd) := by rw [hW5, World.cell?_alloc_at _ _ _ _ rfl]; rfl
            have g1 : W5.cell? ⟨wr.heap.size, 1, none⟩ = some (.string (S key)) := by rw [hW5, World.cell?_alloc_at _ _ _ _ rfl]; rfl
            have g2 : W5.cell? ⟨wr.heap.size, 2, none⟩ = some (.string (S val)) := by rw [hW5, World.cell?_alloc_at _ _ _ _ rfl]; rfl
            have g3 : W5.cell? ⟨wr.heap.size, 3, none⟩ = some (.int .u64 dl) := by rw [hW5, World.cell?_alloc_at _ _ _ _ rfl]; rfl
            have HAR5 := Lib.hid (HAR.out.on hX5)
            have HAB5 := Lib.hid (HAB.out.kept hX5 (Nat.le_refl _))
            have hK5 := hK.on hX5
            rw [← hW5]
            clear hW5 hb t0 t1 t2 t3 hLr HAR HAB hX5 hK hwf hvl
            have p0 : W5.cell? ⟨ab, 0, none⟩ = some (.slice qa A.length qc) := HAR5.out.cell 0
            go_wp2_with fail
            refine (HW.out W5 HAB5.out).mono ?_
            rintro e w6 ⟨⟨v', rfl, hbx⟩, hX6⟩
            obtain ⟨sv, rfl, ao, cc, rfl, hrr⟩ := id hbx
            have HB6 := Lib.hid hbx
            have HAR6 := Lib.hid (HAR5.out.on hX6)
            have hK6 := hK5.on hX6
            have q0 : w6.cell? ⟨ab, 0, none⟩ = some (.slice qa A.length qc) := HAR6.out.cell 0
            have qf := HAR6.out.frozen 0
            generalize withL A ⟨kd, key, val, dl⟩ = A2 at *
            clear hbx hrr
            go_wp2_with fail
            exact ⟨⟨j + 1, A2, ao, cc, by go_num, by omega, by omega, HA2, Lib.hid (HAR6.out.put 0 _), Lib.hid (HB6.out.setAt q0 _), hK6.setCell ⟨ab, 0, none⟩ (Or.inl rfl) _⟩, by simp [intOf]; omega⟩
          · obtain rfl : j = us.length := by omega
            have hnA : NoStr w4 ab := HA.out.noStr (fun s => by simp)
            obtain ⟨w5, hw5⟩ : ∃ w5, w5 = wr := ⟨_, rfl⟩
            subst hw5
            have hS : ∀ x, x = ab → NoStr w4 x := fun x hx => by subst hx; exact hnA
            have HVX5 := Lib.hid (hK.vx HVX.out (by omega))
            have HND5 := Lib.hid (HND.out.keep hK hS)
            have HRW5 := Lib.hid (own_keep HRW.out hK (fun g e q => by subst q; have := (HRWA.out _ e).2; omega))
            have HKN5 := Lib.hid (show Known w5 kb kc from hK.vx HKN.out (by omega))
            have HS5 := Lib.hid (show ScAt w5 sb tb most (.slice none 0 0) from ⟨hK.row HS.out.row (by omega)⟩)
            have HT5 := Lib.hid (show TrAt w5 tb F B L (.func (.func fid) xs ys) root h' gone fl le from ⟨hK.row HT.out.row (by omega)⟩)
            have hb5 : Below w.heap.size w w5 := hb0.trans (hK.below hb0.size (fun x hx => by subst hx; exact hzab))
            clear HVX HND HRW HKN HS HT HLR HA hK hb0 hS hnA
            have v8 := HVX5.out.c8
            have p0 : w5.cell? ⟨ab, 0, none⟩ = some (.slice qa A.length qc) := HAR.out.cell 0
            obtain ⟨g, ea, kcell, hc3⟩ := ptr_at HRW5.out 0 kb HKB.out hcl.1
            subst ea
            have HZ5 := Lib.hid hb5.size
            go_wp2_with fail
            go_loopw [66] (fun i wr => i = .int .i64 0 ∧ Below w5.heap.size w5 wr) (fun _ _ => 0)
            case atStart => exact ⟨rfl, Below.refl _ _⟩
            case round =>
              obtain ⟨rfl, hb6⟩ := hrel
              obtain ⟨w6, hw6⟩ : ∃ w6, w6 = wr := ⟨_, rfl⟩
              subst hw6
              have hcl1 : (0 : Int) < (cs.length : Int) := by omega
              have HRG := Lib.hid (fun w' hn => range_any (.agg #[.slice a1 cs.length c1, .slice a2 us'.length c2]) cs us' 0 w' hn (by omega) (by omega))
              generalize rngLow cs 0 = lo at *
              generalize rngHigh cs 0 = hi at *
              obtain ⟨hrA, hfA⟩ := HAF.out
              have HRI := Lib.hid (cutIn_rising hrA lo hi)
              have HFI' := Lib.hid (show Fine (cutIn A lo hi) from fun u hu => hfA u (List.mem_of_mem_drop (List.mem_of_mem_take hu)))
              have hli := cutIn_le hrA lo hi
              have HCUT := Lib.hid (fun w' hx => cut_any (.agg #[.slice qa A.length qc]) A lo hi w' hx (by omega) hrA)
              generalize cutIn A lo hi = I at *
              generalize cutOut A lo hi = OU at *
              have HKNr := Lib.hid (HKN5.out.on hb6)
              replace HND5 := Lib.hid (HND5.out.kept hb6 (Nat.le_refl _))
              replace HS5 := Lib.hid (HS5.out.on hb6)
              replace HT5 := Lib.hid (HT5.out.on hb6)
              replace HVX5 := Lib.hid (HVX5.out.on hb6)
              replace HAB := Lib.hid (HAB.out.kept hb6 (Nat.le_refl _))
              replace p0 := kept_cell hb6 p0
              replace kcell := kept_cell hb6 kcell
              replace hb5 := hb5.trans (hb6.mono hb5.size)
              have v6 := HVX5.out.c6
              have v7 := HVX5.out.c7
              clear hb6 v8 hrA hfA
              go_wp2_with fail
              refine (thread (HRG.out _ HND5.out) w6.heap.size w6 (Below.refl _ _) (Nat.le_refl _)).mono ?_
              rintro e w7 ⟨rfl, hX7, -, -, -, hz7⟩
              clear v6 v7 kcell
              replace p0 := kept_cell hX7 p0
              replace HS5 := Lib.hid (HS5.out.kept hX7 (Nat.le_refl _))
              replace HT5 := Lib.hid (HT5.out.kept hX7 (Nat.le_refl _))
              replace HAB := Lib.hid (HAB.out.kept hX7 (Nat.le_refl _))
              replace HKNr := Lib.hid (HKNr.out.kept hX7 (Nat.le_refl _))
              replace hb5 := hb5.trans (hX7.mono hb5.size)
              clear hX7
              have c3 := HS5.out.c3
              have c4 := HS5.out.c4
              go_upto_region 17 with (fail)
              refine WQ.region (C := fun w' => Below w7.heap.size w7 w') (by kernel_rfl) (by kernel_rfl) (below_drew' (Below.refl _ _)) ?_
              refine WQ.want (by rfl) (fun K hK => ?_)
              refine ⟨.pointer (some ⟨sb, 0, none⟩), fun w' hw' => ?_, hK _ ?_⟩
              · have hq' := hw'
                go_simp
              clear hK K
              (try simp only [Act.put, List.setIfInBounds_toArray, List.set_cons_zero, List.set_cons_succ])
              refine WQ.want (by rfl) (fun K hK => ?_)
              refine ⟨.string (S lo), fun w' hw' => ?_, hK _ ?_⟩
              · have hq' := hw'
                go_simp
              clear hK K
              (try simp only [Act.put, List.setIfInBounds_toArray, List.set_cons_zero, List.set_cons_succ])
              refine WQ.want (by rfl) (fun K hK => ?_)
              refine ⟨.string (S hi), fun w' hw' => ?_, hK _ ?_⟩
              · have hq' := hw'
                go_simp
              clear hK K
              (try simp only [Act.put, List.setIfInBounds_toArray, List.set_cons_zero, List.set_cons_succ])
              refine WQ.want (by rfl) (fun K hK => ?_)
              refine ⟨.bool true, fun w' hw' => ?_, hK _ ?_⟩
              · have hq' := hw'
                go_simp
                go_at_call 77
                refine (meets0 lo hi _ (HS5.out.kept hq' (Nat.le_refl _))).mono ?_
                rintro e w6 ⟨he, hb6⟩
                exact ⟨he, hq'.trans (hb6.mono hq'.size)⟩
              clear hK K
              (try simp only [Act.put, List.setIfInBounds_toArray, List.set_cons_zero, List.set_cons_succ])
              refine WQ.want (by rfl) (fun K hK => ?_)
              refine ⟨.bool false, fun w' hw' => ?_, hK _ ?_⟩
              · have hq' := hw'
                go_simp
              clear hK K
              (try simp only [Act.put, List.setIfInBounds_toArray, List.set_cons_zero, List.set_cons_succ])
              refine WQ.want (by rfl) (fun K hK => ?_)
              refine ⟨.bool false, fun w' hw' => ?_, hK _ ?_⟩
              · have hq' := hw'
                go_simp
              clear hK K
              (try simp only [Act.put, List.setIfInBounds_toArray, List.set_cons_zero, List.set_cons_succ])
              refine WQ.want (by rfl) (fun K hK => ?_)
              refine ⟨.pointer (some ⟨sb, 0, none⟩), fun w' hw' => ?_, hK _ ?_⟩
              · have hq' := hw'
                go_simp
              clear hK K
              (try simp only [Act.put, List.setIfInBounds_toArray, List.set_cons_zero, List.set_cons_succ])
              refine WQ.want (by rfl) (fun K hK => ?_)
              refine ⟨.pointer (some ⟨sb, 0, none⟩), fun w' hw' => ?_, hK _ ?_⟩
              · have hq' := hw'
                go_simp
              clear hK K
              (try simp only [Act.put, List.setIfInBounds_toArray, List.set_cons_zero, List.set_cons_succ])
              refine WQ.want (by rfl) (fun K hK => ?_)
              refine ⟨.pointer (some ⟨sb, 4, none⟩), fun w' hw' => ?_, hK _ ?_⟩
              · have hq' := hw'
                go_simp
              clear hK K
              (try simp only [Act.put, List.setIfInBounds_toArray, List.set_cons_zero, List.set_cons_succ])
              refine WQ.want (by rfl) (fun K hK => ?_)
              refine ⟨.slice none 0 0, fun w' hw' => ?_, hK _ ?_⟩
              · have hq' := hw'
                have z0 := kept_cell hw' c3; have z1 := kept_cell hw' c4; go_simp
              clear hK K
              (try simp only [Act.put, List.setIfInBounds_toArray, List.set_cons_zero, List.set_cons_succ])
              refine WQ.want (by rfl) (fun K hK => ?_)
              refine ⟨.int .i64 0, fun w' hw' => ?_, hK _ ?_⟩
              · have hq' := hw'
                go_simp
              clear hK K
              (try simp only [Act.put, List.setIfInBounds_toArray, List.set_cons_zero, List.set_cons_succ])
              refine WQ.want (by rfl) (fun K hK => ?_)
              refine ⟨.pointer (some ⟨sb, 0, none⟩), fun w' hw' => ?_, hK _ ?_⟩
              · have hq' := hw'
                go_simp
              clear hK K
              (try simp only [Act.put, List.setIfInBounds_toArray, List.set_cons_zero, List.set_cons_succ])
              refine WQ.want (by rfl) (fun K hK => ?_)
              refine ⟨.pointer (some ⟨sb, 0, none⟩), fun w' hw' => ?_, hK _ ?_⟩
              · have hq' := hw'
                go_simp
              clear hK K
              (try simp only [Act.put, List.setIfInBounds_toArray, List.set_cons_zero, List.set_cons_succ])
              refine WQ.want (by rfl) (fun K hK => ?_)
              refine ⟨.pointer (some ⟨sb, 3, none⟩), fun w' hw' => ?_, hK _ ?_⟩
              · have hq' := hw'
                go_simp
              clear hK K
              (try simp only [Act.put, List.setIfInBounds_toArray, List.set_cons_zero, List.set_cons_succ])
              refine WQ.want (by rfl) (fun K hK => ?_)
              refine ⟨.int .i64 most, fun w' hw' => ?_, hK _ ?_⟩
              · have hq' := hw'
                have z0 := kept_cell hw' c3; have z1 := kept_cell hw' c4; go_simp
              clear hK K
              (try simp only [Act.put, List.setIfInBounds_toArray, List.set_cons_zero, List.set_cons_succ])
              refine WQ.want (by rfl) (fun K hK => ?_)
              refine ⟨.bool false, fun w' hw' => ?_, hK _ ?_⟩
              · have hq' := hw'
                go_simp
              clear hK K
              (try simp only [Act.put, List.setIfInBounds_toArray, List.set_cons_zero, List.set_cons_succ])
              refine WQ.want (by rfl) (fun K hK => ?_)
              refine ⟨.bool false, fun w' hw' => ?_, hK _ ?_⟩
              · have hq' := hw'
                go_simp
              clear hK K
              (try simp only [Act.put, List.setIfInBounds_toArray, List.set_cons_zero, List.set_cons_succ])
              refine WQ.done ?_
              rintro w8 hX8
              replace p0 := kept_cell hX8 p0
              replace HS5 := Lib.hid (HS5.out.kept hX8 (Nat.le_refl _))
              replace HT5 := Lib.hid (HT5.out.kept hX8 (Nat.le_refl _))
              replace HAB := Lib.hid (HAB.out.kept hX8 (Nat.le_refl _))
              replace HKNr := Lib.hid (HKNr.out.kept hX8 (Nat.le_refl _))
              replace hb5 := hb5.trans (hX8.mono hb5.size)
              clear hX8
              clear c3 c4
              go_wp2_with fail
              refine (thread (HCUT.out _ HAB.out) w8.heap.size w8 (Below.refl _ _) (Nat.le_refl _)).mono ?_
              rintro e w9 ⟨⟨v1, v2, rfl, hb1, hb2⟩, hX9, -, -, -, hz9⟩
              obtain ⟨i1, d1, rfl, hb1'⟩ := hb1.open
              obtain ⟨i2, d2, rfl, -⟩ := hb2.open
              have HB1 := Lib.hid hb1'
              clear hb1 hb2 hb1'
              replace p0 := kept_cell hX9 p0
              replace HS5 := Lib.hid (HS5.out.kept hX9 (Nat.le_refl _))
              replace HT5 := Lib.hid (HT5.out.kept hX9 (Nat.le_refl _))
              replace HAB := Lib.hid (HAB.out.kept hX9 (Nat.le_refl _))
              replace HKNr := Lib.hid (HKNr.out.kept hX9 (Nat.le_refl _))
              replace hb5 := hb5.trans (hX9.mono hb5.size)
              clear hX9
              go_upto_region 19 with (fail)
              obtain ⟨W10, hW_W10⟩ : ∃ W10, W10 = ((w9.alloc (.cells #[.slice i1 I.length d1] 103)).alloc (.cells #[.slice i2 OU.length d2] 103)) := ⟨_, rfl⟩
              rw [← hW_W10]
              have hX_W10 : Below w9.heap.size w9 W10 := by rw [hW_W10]; go_grown
              have gi0 : W10.cell? ⟨w9.heap.size, 0, none⟩ = some (.slice i1 I.length d1) := by rw [hW_W10, World.cell?_alloc_past _ _ _ (by simp <;> omega), World.cell?_alloc_at _ _ _ _ (by simp)]; rfl
              have gq0 : W10.cell? ⟨w9.heap.size + 1, 0, none⟩ = some (.slice i2 OU.length d2) := by rw [hW_W10, World.cell?_alloc_at _ _ _ _ (by simp)]; rfl
              clear hW_W10
              have hz_W10 := hX_W10.size
              replace p0 := kept_cell hX_W10 p0
              replace HS5 := Lib.hid (HS5.out.kept hX_W10 (Nat.le_refl _))
              replace HT5 := Lib.hid (HT5.out.kept hX_W10 (Nat.le_refl _))
              replace HAB := Lib.hid (HAB.out.kept hX_W10 (Nat.le_refl _))
              replace HKNr := Lib.hid (HKNr.out.kept hX_W10 (Nat.le_refl _))
              replace HB1 := Lib.hid (HB1.out.kept hX_W10 (Nat.le_refl _))
              replace hb5 := hb5.trans (hX_W10.mono hb5.size)
              clear hX_W10
              have hwh : IntKind.i64.wrap ((h : Int) + 1 - 1) = (h : Int) := by rw [show (h : Int) + 1 - 1 = (h : Int) by omega]; exact IntWalk.i64_in _ (by omega)
              go_wp2_with fail
              refine (thread (IH.out (by omega) kb kc.addr kc.gen kc.sum i1 I.length d1 I W10 HT5.out HS5.out HKNr.out (fun x y z => (HL.out x y z).mono hb5) HB1.out HRI.out HFI'.out (by omega)) W10.heap.size W10 (Below.refl _ _) (Nat.le_refl _)).mono ?_
              rintro e w11 ⟨rfl, hX11, -, -, -, hz11⟩
              have hb11 := hb5.trans (hX11.mono hb5.size)
              go_wp2_with fail
              go_ret
              exact ⟨rfl, hb11⟩
      · go_wp2_with fail
        go_ret
        exact ⟨rfl, hb0⟩

set_option maxRecDepth 100000 in
set_option maxHeartbeats 4000000 in
theorem scan_deep {tb b : Nat} {F B L : Int} {fid : FuncId} {xs ys : Array Value} {H : Nat} {gone : Value} {fl le : Int} {pa : Int} {pg ps : Nat} (most : Int) (pay : List UInt8) (w : World) (ht : TrAt w tb F B L (.func (.func fid) xs ys) b (H : Int) gone fl le) (hv : VxAt w b true pa pg ps false (.slice none 0 0) (.slice none 0 0) (.slice none 0 0) (.slice none 0 0)) (hl : LoadAll fid xs ys 5 pay w) (h1 : 1 ≤ H) (h2 : H ≤ 32) (hp : pay.length ≤ 10000) (hm : 0 < most) :
    Calls Tryz.prog 17 #[.pointer (some ⟨tb, 0, none⟩), .string ⟨#[]⟩, .string ⟨#[]⟩, .int .i64 most] w fun e w' => e = .returned (.tuple #[.slice none 0 0, .int .i64 10]) ∧ Below w.heap.size w w' := by
  have hb0 := Below.refl w.heap.size w
  have HT := Lib.hid ht
  clear ht
  go_enter Tryz.func17, Tryz.ntmps17
  go_upto_region 4 with (fail)
  obtain ⟨W, hW⟩ : ∃ W, W = w.alloc (.cells #[.pointer (some ⟨tb, 0, none⟩), .string ⟨#[]⟩, .string ⟨#[]⟩, .int .i64 most, .slice none 0 0] 115) := ⟨_, rfl⟩
  have HS := Lib.hid (show ScAt W w.heap.size tb most (.slice none 0 0) from ⟨by rw [hW]; exact RowIs.new _ _ [.pointer (some ⟨tb, 0, none⟩), .string ⟨#[]⟩, .string ⟨#[]⟩, .int .i64 most, .slice none 0 0]⟩)
  have hX : Below w.heap.size w W := by rw [hW]; go_grown
  rw [← hW]
  clear hW
  have HT1 := Lib.hid (HT.out.on hX)
  have c4 := HT1.out.c4
  have c5 := HT1.out.c5
  have HVF := Lib.hid (fun w' (hq : Below W.heap.size W w') => vertex_deep pay hp hm H h1 b pa pg ps none 0 0 [] w' (HT1.out.on hq) (HS.out.on hq) ((hv.on hX).on hq) (fun x y z => (hl x y z).mono (hX.trans (hq.mono hX.size))) ⟨_, rfl, SlU.nil _⟩ List.Pairwise.nil (fun u hu => by simp at hu) (by simp; omega))
  refine WQ.region (C := fun w' => Below W.heap.size W w') (by kernel_rfl) (by kernel_rfl) (below_drew' (Below.refl _ _)) ?_
  refine WQ.want (by rfl) (fun K hK => ?_)
  refine ⟨.pointer (some ⟨w.heap.size, 0, none⟩), fun w' hw' => ?_, hK _ ?_⟩
  · have hq' := hw'
    go_simp
  clear hK K
  (try simp only [Act.put, List.setIfInBounds_toArray, List.set_cons_zero, List.set_cons_succ])
  refine WQ.want (by rfl) (fun K hK => ?_)
  refine ⟨.pointer (some ⟨tb, 0, none⟩), fun w' hw' => ?_, hK _ ?_⟩
  · have hq' := hw'
    go_simp
  clear hK K
  (try simp only [Act.put, List.setIfInBounds_toArray, List.set_cons_zero, List.set_cons_succ])
  refine WQ.want (by rfl) (fun K hK => ?_)
  refine ⟨.pointer (some ⟨tb, 0, none⟩), fun w' hw' => ?_, hK _ ?_⟩
  · have hq' := hw'
    go_simp
  clear hK K
  (try simp only [Act.put, List.setIfInBounds_toArray, List.set_cons_zero, List.set_cons_succ])
  refine WQ.want (by rfl) (fun K hK => ?_)
  refine ⟨.pointer (some ⟨tb, 4, none⟩), fun w' hw' => ?_, hK _ ?_⟩
  · have hq' := hw'
    go_simp
  clear hK K
  (try simp only [Act.put, List.setIfInBounds_toArray, List.set_cons_zero, List.set_cons_succ])
  refine WQ.want (by rfl) (fun K hK => ?_)
  refine ⟨.pointer (some ⟨b, 0, none⟩), fun w' hw' => ?_, hK _ ?_⟩
  · have hq' := hw'
    have z0 := kept_cell hw' c4; have z1 := kept_cell hw' c5; go_simp
  clear hK K
  (try simp only [Act.put, List.setIfInBounds_toArray, List.set_cons_zero, List.set_cons_succ])
  refine WQ.want (by rfl) (fun K hK => ?_)
  refine ⟨.pointer (some ⟨tb, 0, none⟩), fun w' hw' => ?_, hK _ ?_⟩
  · have hq' := hw'
    go_simp
  clear hK K
  (try simp only [Act.put, List.setIfInBounds_toArray, List.set_cons_zero, List.set_cons_succ])
  refine WQ.want (by rfl) (fun K hK => ?_)
  refine ⟨.pointer (some ⟨tb, 0, none⟩), fun w' hw' => ?_, hK _ ?_⟩
  · have hq' := hw'
    go_simp
  clear hK K
  (try simp only [Act.put, List.setIfInBounds_toArray, List.set_cons_zero, List.set_cons_succ])
  refine WQ.want (by rfl) (fun K hK => ?_)
  refine ⟨.pointer (some ⟨tb, 5, none⟩), fun w' hw' => ?_, hK _ ?_⟩
  · have hq' := hw'
    go_simp
  clear hK K
  (try simp only [Act.put, List.setIfInBounds_toArray, List.set_cons_zero, List.set_cons_succ])
  refine WQ.want (by rfl) (fun K hK => ?_)
  refine ⟨.int .i64 H, fun w' hw' => ?_, hK _ ?_⟩
  · have hq' := hw'
    have z0 := kept_cell hw' c4; have z1 := kept_cell hw' c5; go_simp
  clear hK K
  (try simp only [Act.put, List.setIfInBounds_toArray, List.set_cons_zero, List.set_cons_succ])
  refine WQ.want (by rfl) (fun K hK => ?_)
  refine ⟨.agg #[.slice none 0 0], fun w' hw' => ?_, hK _ ?_⟩
  · have hq' := hw'
    go_simp
  clear hK K
  (try simp only [Act.put, List.setIfInBounds_toArray, List.set_cons_zero, List.set_cons_succ])
  refine WQ.want (by rfl) (fun K hK => ?_)
  refine ⟨.int .i64 10, fun w' hw' => ?_, hK _ ?_⟩
  · have hq' := hw'
    go_simp
    go_at_call 43
    refine (HVF.out _ hq').mono ?_
    rintro e w6 ⟨he, hb6⟩
    exact ⟨he, hq'.trans (hb6.mono hq'.size)⟩
  clear hK K
  (try simp only [Act.put, List.setIfInBounds_toArray, List.set_cons_zero, List.set_cons_succ])
  refine WQ.want (by rfl) (fun K hK => ?_)
  refine ⟨.int .i64 10, fun w' hw' => ?_, hK _ ?_⟩
  · have hq' := hw'
    go_simp
  clear hK K
  (try simp only [Act.put, List.setIfInBounds_toArray, List.set_cons_zero, List.set_cons_succ])
  refine WQ.done ?_
  rintro w2 hX2
  have hB2 := hX.trans (hX2.mono hX.size)
  go_wp2_with fail
  go_returns
  exact ⟨rfl, hB2⟩


end Go.Proofs.YtafciefjlkdecaaGreat
