/-
  The walk of Get where every load gives the same node: there is no leaf.
-/
import Derived.Test.YtafciefjlkdecaaGreatTrn
import Derived.Test.YtafciefjlkdecaaGreatTrd
import Derived.Deep.DeepCutAuto
import Derived.Deep.CutBlock
namespace Go.Proofs.YtafciefjlkdecaaGreat
open Go.RowKit
attribute [local go_sem ↓] Go.wp_at_zero Go.wp_at_succ

theorem chAt_nonneg (l : List Chd) (k : List UInt8) (h0 : 0 < l.length) (hf : (l[0]'h0).low = []) : ∀ j, 0 < j → 0 ≤ chAt l k j
  | 0, h => absurd h (by omega)
  | 1, _ => by
    rw [chAt_yes h0 (by rw [hf]; exact bl_nil k)]
    simp
  | j + 2, _ => by
    have ih := chAt_nonneg l k h0 hf (j + 1) (by omega)
    by_cases hj : j + 1 < l.length
    · cases hb : bl k l[j + 1].low with
      | false => rw [chAt_yes hj hb]; omega
      | true => rw [chAt_no hj hb]; exact ih
    · unfold chAt
      rw [dif_neg hj]
      exact ih
theorem NodeOk.child {cs : List Chd} {us : List Upd} (h : NodeOk cs us) (k : List UInt8) : ∃ i : Nat, chOf cs k = (i : Int) ∧ i < cs.length := by
  have h0 : 0 < cs.length := h.kids.len.1
  have h1 := chAt_nonneg cs k h0 (h.kids.first _ (List.getElem?_eq_getElem h0)) cs.length h0
  have h2 := (chAt_lt cs k cs.length).2
  obtain ⟨i, hi⟩ := Int.eq_ofNat_of_zero_le h1
  exact ⟨i, hi, by rw [hi] at h2; omega⟩

/-- Whatever is asked for, the same is loaded. -/
def LoadAll (fid : FuncId) (xs ys : Array Value) (k : Nat) (pay : List UInt8) (w : World) : Prop := ∀ pa pg ps, LoadIs fid xs ys pa pg ps k pay 0 w
theorem LoadIs.mono {fid : FuncId} {xs ys : Array Value} {pa : Int} {pg ps : Nat} {k : Nat} {pay : List UInt8} {er : Int} {w w' : World} (h : LoadIs fid xs ys pa pg ps k pay er w) (hb : Below w.heap.size w w') : LoadIs fid xs ys pa pg ps k pay er w' :=
  ⟨h.ent, fun w1 h1 => h.go w1 (hb.trans (h1.mono hb.size))⟩
theorem ptr_at {w : World} {B : Nat} {E : TypeId} {a : Option Addr} {n c : Nat} {ks : List Nat} (h : w.ownsRow B E 1 (.slice a n c) n (ks.map vp)) (i : Nat) (b : Nat) (hi : ks[i]? = some b) (hin : i < n) : ∃ g, a = some ⟨g, 0, none⟩ ∧ w.cell? ⟨g, i, none⟩ = some (.pointer (some ⟨b, 0, none⟩)) ∧ n ≤ c := by
  rcases ownsRow_open h with ⟨e, h0, -⟩ | ⟨g, cap, cur, e, -, hr, h3, -, -, h6⟩
  · omega
  · simp only [Value.slice.injEq] at e
    obtain ⟨rfl, -, rfl⟩ := e
    refine ⟨g, rfl, ?_, h3⟩
    rw [hr.cell]
    have : (cur.take (n * 1))[i]? = some (vp b) := by rw [h6, List.getElem?_map, hi]; rfl
    rwa [Nat.mul_one, List.getElem?_take, if_pos hin] at this

theorem infoUp : (Tryz.prog.info? 39).map (fun i => (i.zero, i.size, i.bytes)) = some (some (.agg #[.int .u8 0, .string ByteArray.empty, .string ByteArray.empty, .int .u64 0]), 4, 48) := by kernel_rfl

theorem upd_oneCell (u : Upd) : ∀ v ∈ [Value.int .u8 u.kind, .string (S u.key), .string (S u.val), .int .u64 u.delta], v.oneCell' = true := by
  intro v hv
  simp only [List.mem_cons, List.not_mem_nil, or_false] at hv
  rcases hv with rfl | rfl | rfl | rfl <;> rfl

set_option maxRecDepth 100000 in
set_option maxHeartbeats 8000000 in
theorem get_deep {tb b : Nat} {F B L : Int} {fid : FuncId} {xs ys : Array Value} {H : Nat} {gone : Value} {fl le : Int} {pa : Int} {pg ps : Nat} (k : List UInt8) (pay : List UInt8) (w : World) (ht : TrAt w tb F B L (.func (.func fid) xs ys) b (H : Int) gone fl le) (hv : VxAt w b true pa pg ps false (.slice none 0 0) (.slice none 0 0) (.slice none 0 0) (.slice none 0 0)) (hl : LoadAll fid xs ys 5 pay w) (h1 : 1 ≤ H) (h2 : H ≤ 32) (hp : pay.length ≤ 10000) :
    Calls Tryz.prog 25 #[.pointer (some ⟨tb, 0, none⟩), .string (S k)] w fun e w' => e = .returned (.tuple #[.string ⟨#[]⟩, .bool false, .int .i64 0, .int .i64 10]) ∧ Below w.heap.size w w' := by
  obtain ⟨i0, hi, iz0, iz1, iz2⟩ := info_parts infoUp
  have c4 := ht.c4
  have c5 := ht.c5
  have HT := Lib.hid ht
  have HV := Lib.hid hv
  have HL := Lib.hid hl
  clear ht hv hl
  go_enter Tryz.func25, Tryz.ntmps25
  go_wp2_with fail
  go_loopw [8, 9, 10, 11] (fun s8 s9 s10 s11 wr => ∃ (ul : List Upd) (ua : Option Addr) (uc lo vb h : Nat) (qa : Int) (qg qs : Nat), s8 = .slice ua ul.length uc ∧ s9 = .int .i64 lo ∧ s10 = .pointer (some ⟨vb, 0, none⟩) ∧ s11 = .int .i64 h ∧ 1 ≤ h ∧ ul.length + h ≤ 32 ∧ lo + h ≤ 32 ∧ Hid (wr.ownsRow w.heap.size 39 4 (.slice ua ul.length uc) ul.length (cellsU ul)) ∧ Hid (VxAt wr vb true qa qg qs false (.slice none 0 0) (.slice none 0 0) (.slice none 0 0) (.slice none 0 0)) ∧ Below w.heap.size w wr) (fun _ _ _ s11 _ => (intOf s11).toNat)
  case atStart => exact ⟨[], none, 0, 0, b, H, pa, pg, ps, rfl, rfl, rfl, rfl, h1, by simpa using h2, by simpa using h2, Lib.hid (World.ownsRow_nil _ _ _ _), HV, by go_grown⟩
  case round =>
    obtain ⟨ul, ua, uc, lo, vb, h, qa, qg, qs, rfl, rfl, rfl, rfl, hh1, hh2, hh3, HU, HVB, hB⟩ := hrel
    have hX := hB
    have hTr := Lib.hid (HT.out.on hB)
    by_cases he1 : h = 1
    · subst he1
      go_wp2_with fail
      refine (thread (fetch_kind 5 pay 1 wr hTr.out HVB.out ((HL.out qa qg qs).mono hB) (by omega) (fun _ => by omega) (fun e => by omega)) wr.heap.size wr (Below.refl _ _) (Nat.le_refl _)).mono ?_
      rintro e w2 ⟨rfl, hX2, -, -, -, hz⟩
      have hB2 := hB.trans (hX2.mono hB.size)
      go_wp2_with fail
      go_returns
      exact ⟨rfl, hB2⟩
    · have hne : ((h : Int) == 1) = false := by simp; omega
      go_wp2_with fail
      refine (thread (fetch_node 5 pay (h : Int) wr hTr.out HVB.out ((HL.out qa qg qs).mono hB) rfl (by omega) hp) wr.heap.size wr (Below.refl _ _) (Nat.le_refl _)).mono ?_
      rintro e w2 ⟨hres, hX2, -, -, -, hz⟩
      have hB2 := hB.trans (hX2.mono hB.size)
      have HU2 := Lib.hid (own_below HU.out hX2)
      rcases hres with ⟨N, ob, cs, us, ks, a1, c1, a2, c2, a3, c3, hN, hgot⟩ | ⟨-, rfl⟩
      · obtain ⟨rfl, -, hok, hob, hvx, hnd, hrw, hrc, hru, hlen, hkid⟩ := hgot
        have v7 := hvx.c7
        have hus := hok.len
        have hcs := hok.kids.len
        have HBU := Lib.hid (show BoxU w2 (.agg #[.slice a2 us.length c2]) us from ⟨_, rfl, hnd.parts.2⟩)
        obtain ⟨ix, hix, hixl⟩ := hok.child k
        obtain ⟨kb, hkb, hkn, hNk⟩ := hkid ix _ (List.getElem?_eq_getElem hixl)
        have HGT := Lib.hid (get_any (.agg #[.slice a2 us.length c2]) us k w2 HBU.out (by omega) hok.rising)
        obtain ⟨u', bb, hGV⟩ : ∃ (u : Upd) (bb : Bool), getV (getL us k) = .tuple #[.agg #[.int .u8 u.kind, .string (S u.key), .string (S u.val), .int .u64 u.delta], .bool bb] := by
          cases getL us k with
          | none => exact ⟨⟨0, [], [], 0⟩, false, rfl⟩
          | some u => exact ⟨u, true, rfl⟩
        rw [hGV] at HGT
        have HCH := Lib.hid (fun w' h => child_any (.agg #[.slice a1 cs.length c1, .slice a2 us.length c2]) cs us k w' h (by omega))
        rw [hix] at HCH
        have HVX := Lib.hid hvx
        have HRW := Lib.hid hrw
        have HRC := Lib.hid hrc
        have HRU := Lib.hid hru
        have HKN := Lib.hid hkn
        have HKB := Lib.hid hkb
        generalize cs[ix] = kc at *
        clear hvx hrw hrc hru hkn hkb hkid hnd hlen hGV hix hok
        go_wp2_with fail
        refine (thread HGT.out w2.heap.size w2 (Below.refl _ _) (Nat.le_refl _)).mono ?_
        rintro e w3 ⟨rfl, hX3, -, -, -, hz3⟩
        have HU3 := Lib.hid (own_below HU2.out hX3)
        go_upto_if 78 with (fail)
        obtain ⟨W4, hW4⟩ : ∃ W4, W4 = w3.alloc (.cells #[.int .u8 u'.kind, .string (S u'.key), .string (S u'.val), .int .u64 u'.delta] 39) := ⟨_, rfl⟩
        have hX4 : Below w3.heap.size w3 W4 := by rw [hW4]; go_grown
        have g0 : W4.cell? ⟨w3.heap.size, 0, none⟩ = some (.int .u8 u'.kind) := by rw [hW4, World.cell?_alloc_at _ _ _ _ rfl]; rfl
        have g1 : W4.cell? ⟨w3.heap.size, 1, none⟩ = some (.string (S u'.key)) := by rw [hW4, World.cell?_alloc_at _ _ _ _ rfl]; rfl
        have g2 : W4.cell? ⟨w3.heap.size, 2, none⟩ = some (.string (S u'.val)) := by rw [hW4, World.cell?_alloc_at _ _ _ _ rfl]; rfl
        have g3 : W4.cell? ⟨w3.heap.size, 3, none⟩ = some (.int .u64 u'.delta) := by rw [hW4, World.cell?_alloc_at _ _ _ _ rfl]; rfl
        have HU4 := Lib.hid (own_below HU3.out hX4)
        have hX24 := hX3.trans (hX4.mono hX3.size)
        have hzw := hB.size
        have hlt := HU.out.lt
        have HLT := Lib.hid hlt
        rw [← hW4]
        clear hW4 hX4 hX3 HU2 HU3 hlt
        go_cut [8] (fun s8 wx => ∃ (vl : List Upd) (va : Option Addr) (vc : Nat), s8 = .slice va vl.length vc ∧ vl.length ≤ ul.length + 1 ∧ Hid (wx.ownsRow w.heap.size 39 4 (.slice va vl.length vc) vl.length (cellsU vl)) ∧ Keep (fun x => w.heap.size ≤ x ∧ x < wr.heap.size) w2 wx)
        case first =>
          cases bb
          · go_wp2_with fail
            go_meet
            exact ⟨ul, ua, uc, rfl, by omega, HU4, .of_below hX24⟩
          · have HCL := Lib.hid (show cellsU ul ++ [.int .u8 u'.kind, .string (S u'.key), .string (S u'.val), .int .u64 u'.delta] = cellsU (ul ++ [u']) by rw [cellsU_append, cellsU_one]; rfl)
            have HLN := Lib.hid (show (ul ++ [u']).length = ul.length + 1 by simp)
            have hX5 : Below W4.heap.size W4 (W4.alloc (.cells #[.int .u8 u'.kind, .string (S u'.key), .string (S u'.val), .int .u64 u'.delta] 39)) := by go_grown
            go_wp2_with (at_builtin; go_must (refine wpList_append_own_at _ rfl (.tmp 79) (.tmp 81) 101 rfl w.heap.size 39 i0 (.agg #[.int .u8 0, .string ByteArray.empty, .string ByteArray.empty, .int .u64 0]) 4 48 Tryz.underlying101 hi iz0 iz1 iz2 rfl (by decide) _ ul.length _ rfl (HU4.out.alloc _) ⟨W4.heap.size, 0, none⟩ 1 1 [.int .u8 u'.kind, .string (S u'.key), .string (S u'.val), .int .u64 u'.delta] rfl rfl (cell_four_at _ _ rfl _ _ _ _ _) (upd_oneCell u') (by unfold maxLen; omega) (by omega) (by rw [World.size_alloc]; have := hX24.size; have := hX2.size; omega) ?_; intro vc wz hownvc hgrowvc _ hatvc; rw [HCL.out] at hownvc; obtain ⟨ac, yc, rfl⟩ := own_form hownvc; have HGR := Lib.hid hownvc; have hKz : Keep (fun x => w.heap.size ≤ x ∧ x < wr.heap.size) w2 wz := ((Keep.of_below hX24).on hX5).grown hgrowvc (fun g e => Or.inl (HLT.out g e)); clear hatvc hownvc hgrowvc))
            rw [← HLN.out] at HGR
            go_meet
            exact ⟨ul ++ [u'], ac, yc, by rw [HLN.out], by rw [HLN.out]; exact Nat.le_refl _, HGR, hKz⟩
        case rest =>
          obtain ⟨vl, va, vc, rfl, hvl, HVL, hK⟩ := hcut
          have hobS : ¬ (w.heap.size ≤ ob ∧ ob < wr.heap.size) := by omega
          have HVX5 := Lib.hid (hK.vx HVX.out hobS)
          have HRW5 := Lib.hid (own_keep HRW.out hK (fun g e q => by have := (HRW.out.lt g e).1; omega))
          have HRC5 := Lib.hid (own_keep HRC.out hK (fun g e q => by have := (HRC.out.lt g e).1; omega))
          have HRU5 := Lib.hid (own_keep HRU.out hK (fun g e q => by have := (HRU.out.lt g e).1; omega))
          have HKN5 := Lib.hid (show Known wc kb kc from hK.vx HKN.out (by omega))
          have HND := Lib.hid (NodeAt.mk' (slC_row HRC5.out).2 (slU_row HRU5.out).2)
          have hB5 := hB2.trans (hK.below hB2.size (fun x hx => hx.1))
          obtain ⟨g, ea, kcell, hc3⟩ := ptr_at HRW5.out ix kb HKB.out hixl
          subst ea
          have v6 := HVX5.out.c6
          have v7 := HVX5.out.c7
          have v8 := HVX5.out.c8
          clear g0 g1 g2 g3 HU4 HVX HRW HRC HRU HKN HBU HGT
          go_upto_region 21 with (fail)
          refine WQ.region (C := fun w' => Below wc.heap.size wc w') (by kernel_rfl) (by kernel_rfl) (below_drew' (Below.refl _ _)) ?_
          refine WQ.want (by rfl) (fun K hK => ?_)
          refine ⟨.pointer (some ⟨ob, 0, none⟩), fun w' hw' => ?_, hK _ ?_⟩
          · have hq' := hw'
            go_simp
          clear hK K
          (try simp only [Act.put, List.setIfInBounds_toArray, List.set_cons_zero, List.set_cons_succ])
          refine WQ.want (by rfl) (fun K hK => ?_)
          refine ⟨.pointer (some ⟨ob, 0, none⟩), fun w' hw' => ?_, hK _ ?_⟩
          · have hq' := hw'
            go_simp
          clear hK K
          (try simp only [Act.put, List.setIfInBounds_toArray, List.set_cons_zero, List.set_cons_succ])
          refine WQ.want (by rfl) (fun K hK => ?_)
          refine ⟨.pointer (some ⟨ob, 8, none⟩), fun w' hw' => ?_, hK _ ?_⟩
          · have hq' := hw'
            go_simp
          clear hK K
          (try simp only [Act.put, List.setIfInBounds_toArray, List.set_cons_zero, List.set_cons_succ])
          refine WQ.want (by rfl) (fun K hK => ?_)
          refine ⟨.slice (some ⟨g, 0, none⟩) cs.length c3, fun w' hw' => ?_, hK _ ?_⟩
          · have hq' := hw'
            have z0 := kept_cell hw' v6; have z1 := kept_cell hw' v7; have z2 := kept_cell hw' v8; have z3 := kept_cell hw' kcell; go_simp
          clear hK K
          (try simp only [Act.put, List.setIfInBounds_toArray, List.set_cons_zero, List.set_cons_succ])
          refine WQ.want (by rfl) (fun K hK => ?_)
          refine ⟨.pointer (some ⟨ob, 0, none⟩), fun w' hw' => ?_, hK _ ?_⟩
          · have hq' := hw'
            go_simp
          clear hK K
          (try simp only [Act.put, List.setIfInBounds_toArray, List.set_cons_zero, List.set_cons_succ])
          refine WQ.want (by rfl) (fun K hK => ?_)
          refine ⟨.pointer (some ⟨ob, 0, none⟩), fun w' hw' => ?_, hK _ ?_⟩
          · have hq' := hw'
            go_simp
          clear hK K
          (try simp only [Act.put, List.setIfInBounds_toArray, List.set_cons_zero, List.set_cons_succ])
          refine WQ.want (by rfl) (fun K hK => ?_)
          refine ⟨.pointer (some ⟨ob, 6, none⟩), fun w' hw' => ?_, hK _ ?_⟩
          · have hq' := hw'
            go_simp
          clear hK K
          (try simp only [Act.put, List.setIfInBounds_toArray, List.set_cons_zero, List.set_cons_succ])
          refine WQ.want (by rfl) (fun K hK => ?_)
          refine ⟨.agg #[.slice a1 cs.length c1, .slice a2 us.length c2], fun w' hw' => ?_, hK _ ?_⟩
          · have hq' := hw'
            have z0 := kept_cell hw' v6; have z1 := kept_cell hw' v7; have z2 := kept_cell hw' v8; have z3 := kept_cell hw' kcell; go_simp
          clear hK K
          (try simp only [Act.put, List.setIfInBounds_toArray, List.set_cons_zero, List.set_cons_succ])
          refine WQ.want (by rfl) (fun K hK => ?_)
          refine ⟨.string (S k), fun w' hw' => ?_, hK _ ?_⟩
          · have hq' := hw'
            go_simp
          clear hK K
          (try simp only [Act.put, List.setIfInBounds_toArray, List.set_cons_zero, List.set_cons_succ])
          refine WQ.want (by rfl) (fun K hK => ?_)
          refine ⟨.int .i64 ix, fun w' hw' => ?_, hK _ ?_⟩
          · have hq' := hw'
            go_simp
            go_at_call 55
            refine (HCH.out _ (HND.out.kept hq' (Nat.le_refl _))).mono ?_
            rintro e w6 ⟨he, hb6⟩
            exact ⟨he, hq'.trans (hb6.mono hq'.size)⟩
          clear hK K
          (try simp only [Act.put, List.setIfInBounds_toArray, List.set_cons_zero, List.set_cons_succ])
          refine WQ.want (by rfl) (fun K hK => ?_)
          refine ⟨.pointer (some ⟨g, ix, none⟩), fun w' hw' => ?_, hK _ ?_⟩
          · have hq' := hw'
            go_simp
          clear hK K
          (try simp only [Act.put, List.setIfInBounds_toArray, List.set_cons_zero, List.set_cons_succ])
          refine WQ.want (by rfl) (fun K hK => ?_)
          refine ⟨.pointer (some ⟨kb, 0, none⟩), fun w' hw' => ?_, hK _ ?_⟩
          · have hq' := hw'
            have z0 := kept_cell hw' v6; have z1 := kept_cell hw' v7; have z2 := kept_cell hw' v8; have z3 := kept_cell hw' kcell; go_simp
          clear hK K
          (try simp only [Act.put, List.setIfInBounds_toArray, List.set_cons_zero, List.set_cons_succ])
          refine WQ.want (by rfl) (fun K hK => ?_)
          refine ⟨.pointer (some ⟨kb, 0, none⟩), fun w' hw' => ?_, hK _ ?_⟩
          · have hq' := hw'
            go_simp
          clear hK K
          (try simp only [Act.put, List.setIfInBounds_toArray, List.set_cons_zero, List.set_cons_succ])
          refine WQ.done ?_
          rintro w6 hX6
          have hB6 := hB5.trans (hX6.mono hB5.size)
          have HKN6 := Lib.hid (HKN5.out.on hX6)
          have HVL6 := Lib.hid (own_below HVL.out hX6)
          go_wp2_with fail
          exact ⟨⟨vl, va, vc, lo + 1, kb, h - 1, kc.addr, kc.gen, kc.sum, rfl, by go_num, rfl, by go_num, by omega, by omega, by omega, HVL6, HKN6, hB6⟩, by simp [intOf]; omega⟩
      · go_wp2_with fail
        go_returns
        exact ⟨rfl, hB2⟩

end Go.Proofs.YtafciefjlkdecaaGreat
