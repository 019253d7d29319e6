/-
  The walks of a scan of all keys: within, meets, entries.
-/
import Derived.Test.YtafciefjlkdecaaGreatTre
import Derived.Test.YtafciefjlkdecaaGreatTrn
import Derived.Deep.DeepCutAuto
import Derived.Deep.CutBlock
namespace Go.Proofs.YtafciefjlkdecaaGreat
open Go.RowKit
attribute [local go_sem ↓] Go.wp_at_zero Go.wp_at_succ

/-- A scan of all keys, its entries so far in a slice. -/
structure ScAt (w : World) (sb tb : Nat) (most : Int) (out : Value) : Prop where
  row : RowIs w 115 sb [.pointer (some ⟨tb, 0, none⟩), .string ⟨#[]⟩, .string ⟨#[]⟩, .int .i64 most, out]
section
variable {w w' : World} {sb tb : Nat} {most : Int} {out : Value}
theorem ScAt.on (h : ScAt w sb tb most out) (hb : Below w.heap.size w w') : ScAt w' sb tb most out := ⟨h.row.on hb⟩
theorem ScAt.kept {B : Nat} (h : ScAt w sb tb most out) (hb : Below B w w') (hB : w.heap.size ≤ B) : ScAt w' sb tb most out := ⟨h.row.on (hb.mono hB)⟩
theorem ScAt.lt (h : ScAt w sb tb most out) : sb < w.heap.size := h.row.lt
theorem ScAt.c0 (h : ScAt w sb tb most out) : w.cell? ⟨sb, 0, none⟩ = some (.pointer (some ⟨tb, 0, none⟩)) := h.row.cell 0
theorem ScAt.c1 (h : ScAt w sb tb most out) : w.cell? ⟨sb, 1, none⟩ = some (.string ⟨#[]⟩) := h.row.cell 1
theorem ScAt.c2 (h : ScAt w sb tb most out) : w.cell? ⟨sb, 2, none⟩ = some (.string ⟨#[]⟩) := h.row.cell 2
theorem ScAt.c3 (h : ScAt w sb tb most out) : w.cell? ⟨sb, 3, none⟩ = some (.int .i64 most) := h.row.cell 3
theorem ScAt.c4 (h : ScAt w sb tb most out) : w.cell? ⟨sb, 4, none⟩ = some out := h.row.cell 4
theorem ScAt.fz (h : ScAt w sb tb most out) (o : Nat) : w.frozen? ⟨sb, o, none⟩ = false := h.row.frozen o
theorem ScAt.put (h : ScAt w sb tb most out) (v : Value) : ScAt (w.setCell ⟨sb, 4, none⟩ v) sb tb most v := ⟨h.row.put 4 v⟩
end

set_option maxHeartbeats 1000000 in
theorem within0 {sb tb : Nat} {most : Int} {out : Value} (k : List UInt8) (w : World) (h : ScAt w sb tb most out) :
    Calls Tryz.prog 102 #[.pointer (some ⟨sb, 0, none⟩), .string (S k)] w fun e w' => e = .returned (.bool true) ∧ Below w.heap.size w w' := by
  have c1 := h.c1
  have c2 := h.c2
  have hb : Op.bytesLess k [] = false := bl_nil k
  go_enter Tryz.func102, Tryz.ntmps102
  go_wp2_with fail
  go_ret
  exact ⟨rfl, by go_grown⟩
set_option maxHeartbeats 1000000 in
theorem meets0 {sb tb : Nat} {most : Int} {out : Value} (k l : List UInt8) (w : World) (h : ScAt w sb tb most out) :
    Calls Tryz.prog 77 #[.pointer (some ⟨sb, 0, none⟩), .string (S k), .string (S l)] w fun e w' => e = .returned (.bool true) ∧ Below w.heap.size w w' := by
  have c1 := h.c1
  have c2 := h.c2
  have hb : Op.bytesLess l [] = false := bl_nil l
  cases l with
  | nil =>
    go_enter Tryz.func77, Tryz.ntmps77
    go_wp2_with fail
    go_ret
    exact ⟨rfl, by go_grown⟩
  | cons x t =>
    go_enter Tryz.func77, Tryz.ntmps77
    go_wp2_with fail
    go_ret
    exact ⟨by simp, by go_grown⟩

/-- One entry more, where there may be. -/
def addE (most : Int) (outs : List Ent) (e : Ent) : List Ent := if (outs.length : Int) < most then outs ++ [e] else outs
def accE (most : Int) (outs l : List Ent) : List Ent := l.foldl (addE most) outs
theorem accE_step (most : Int) (outs l : List Ent) (j : Nat) (hj : j < l.length) : accE most outs (l.take (j + 1)) = addE most (accE most outs (l.take j)) l[j] := by
  unfold accE
  rw [List.take_succ_eq_append_getElem hj, List.foldl_append]
  rfl
theorem addE_len (most : Int) (outs : List Ent) (e : Ent) : (addE most outs e).length ≤ outs.length + 1 := by
  unfold addE
  split <;> simp
theorem accE_len (most : Int) (outs : List Ent) : ∀ l : List Ent, (accE most outs l).length ≤ outs.length + l.length := by
  intro l
  induction l generalizing outs with
  | nil => simp [accE]
  | cons e l ih =>
    have h1 := ih (addE most outs e)
    have h2 := addE_len most outs e
    have h3 : accE most outs (e :: l) = accE most (addE most outs e) l := rfl
    rw [h3, List.length_cons]
    omega

/-- A scan and its entries so far, in a row of its own. -/
structure ScOut (B sb tb : Nat) (most : Int) (outs : List Ent) (oa : Option Addr) (oc : Nat) (w : World) : Prop where
  sc : ScAt w sb tb most (.slice oa outs.length oc)
  row : w.ownsRow B 73 2 (.slice oa outs.length oc) outs.length (cellsE outs)
theorem ScOut.on {B sb tb : Nat} {most : Int} {outs : List Ent} {oa : Option Addr} {oc : Nat} {w w' : World} (h : ScOut B sb tb most outs oa oc w) (hb : Below w.heap.size w w') : ScOut B sb tb most outs oa oc w' := ⟨h.sc.on hb, own_below h.row hb⟩
theorem ScOut.kept {B sb tb : Nat} {most : Int} {outs : List Ent} {oa : Option Addr} {oc N : Nat} {w w' : World} (h : ScOut B sb tb most outs oa oc w) (hb : Below N w w') (hN : w.heap.size ≤ N) : ScOut B sb tb most outs oa oc w' := h.on (hb.mono hN)
theorem SlE.at {w : World} {a : Option Addr} {n c : Nat} {l : List Ent} (h : SlE w (.slice a n c) l) : SlAt Ent.cells 2 w a l := by
  obtain ⟨ao, c', e, hs, -⟩ := h
  simp only [Value.slice.injEq] at e
  obtain ⟨rfl, -, -⟩ := e
  exact hs
theorem infoEn : (Tryz.prog.info? 73).map (fun i => (i.zero, i.size, i.bytes)) = some (some (.agg #[.string ByteArray.empty, .string ByteArray.empty]), 2, 32) := by kernel_rfl
theorem cellsE_snoc (l : List Ent) (u : Ent) : cellsE (l ++ [u]) = cellsE l ++ [.string (S u.key), .string (S u.val)] := by simp [cellsE, Ent.cells]
theorem ent_oneCell (u : Ent) : ∀ v ∈ [Value.string (S u.key), .string (S u.val)], v.oneCell' = true := by
  intro v hv
  simp only [List.mem_cons, List.not_mem_nil, or_false] at hv
  rcases hv with rfl | rfl <;> rfl
/-- The out row has grown, and is stored. -/
theorem ScOut.more {B sb tb : Nat} {most : Int} {outs outs' : List Ent} {oa oa' : Option Addr} {oc oc' : Nat} {w wz : World} (h : ScOut B sb tb most outs oa oc w) (hg : w.grownBy wz (Value.slice oa outs.length oc).ownBlock) (hr : wz.ownsRow B 73 2 (.slice oa' outs'.length oc') outs'.length (cellsE outs')) (hB : sb < B) :
    ScOut B sb tb most outs' oa' oc' (wz.setCell ⟨sb, 4, none⟩ (.slice oa' outs'.length oc')) := by
  have hne : some sb ≠ (Value.slice oa outs.length oc).ownBlock := fun e => by have := (h.row.lt sb e.symm).1; omega
  exact ⟨(show ScAt wz sb tb most (.slice oa outs.length oc) from ⟨h.sc.row.kept hg hne⟩).put _, ownsRow_setCell_other (a := ⟨sb, 4, none⟩) hr (fun e => by have := (hr.lt sb e).1; omega) _⟩

set_option maxRecDepth 100000 in
set_option maxHeartbeats 8000000 in
theorem entries0 {B sb tb : Nat} {most : Int} {outs : List Ent} {oa : Option Addr} {oc : Nat} {a b : Option Addr} {n c m d : Nat} {es : List Ent} {us : List Upd} (w : World) (h : ScOut B sb tb most outs oa oc w) (hB : sb < B) (hBw : B ≤ w.heap.size) (hf : BoxE w (.agg #[.slice a n c]) es) (hu : BoxU w (.agg #[.slice b m d]) us) (he : es.length ≤ 10000) (hr : Rising Ent.key es) (hfi : FineE es) (hul : us.length ≤ 10000) (huw : ∀ u ∈ us, u.Wf) (ho : outs.length ≤ 10000) :
    Calls Tryz.prog 74 #[.pointer (some ⟨sb, 0, none⟩), .agg #[.slice a n c], .agg #[.slice b m d]] w fun e w' => e = .returned (.tuple #[]) ∧ (∃ oa' oc', ScOut B sb tb most (accE most outs (onAll es us)) oa' oc' w' ∧ ∀ g, (Value.slice oa' (accE most outs (onAll es us)).length oc').ownBlock = some g → (Value.slice oa outs.length oc).ownBlock = some g ∨ w.heap.size ≤ g) ∧ Keep (fun x => x = sb ∨ (Value.slice oa outs.length oc).ownBlock = some x) w w' := by
  obtain ⟨i0, hi, iz0, iz1, iz2⟩ := info_parts infoEn
  obtain ⟨hr', hf', hl'⟩ := onAll_ok es hr hfi us
  have HL := Lib.hid (fun w' h => listU (.agg #[.slice b m d]) us w' h (by omega))
  have HON := Lib.hid (fun w' s h1 h2 => leafOn_any (.agg #[.slice a n c]) es s us w' h1 he hr hfi h2 huw hul)
  have hOw : ∀ g, (Value.slice oa outs.length oc).ownBlock = some g → g < w.heap.size := fun g e => (h.row.lt g e).2
  have HOw := Lib.hid hOw
  clear hOw
  have HF := Lib.hid hf
  have HU := Lib.hid hu
  have HH := Lib.hid h
  clear hf hu h hr hfi huw
  generalize onAll es us = E at *
  have HLE := Lib.hid (fun w' a c h => listE (.agg #[.slice a E.length c]) E w' h (by omega))
  go_enter Tryz.func74, Tryz.ntmps74
  go_upto_region 1 with (fail)
  have hb0 := Below.refl w.heap.size w
  obtain ⟨W0, hW_W0⟩ : ∃ W0, W0 = ((w.alloc (.cells #[.slice a n c] 99)).alloc (.cells #[.slice b m d] 103)) := ⟨_, rfl⟩
  rw [← hW_W0]
  have hX_W0 : Below w.heap.size w W0 := by rw [hW_W0]; go_grown
  have gf0 : W0.cell? ⟨w.heap.size, 0, none⟩ = some (.slice a n c) := by rw [hW_W0, World.cell?_alloc_past _ _ _ (by simp <;> omega), World.cell?_alloc_at _ _ _ _ (by simp)]; rfl
  have gu0 : W0.cell? ⟨w.heap.size + 1, 0, none⟩ = some (.slice b m d) := by rw [hW_W0, World.cell?_alloc_at _ _ _ _ (by simp)]; rfl
  clear hW_W0
  have hz_W0 := hX_W0.size
  replace HF := Lib.hid (HF.out.kept hX_W0 (Nat.le_refl _))
  replace HU := Lib.hid (HU.out.kept hX_W0 (Nat.le_refl _))
  replace HH := Lib.hid (HH.out.kept hX_W0 (Nat.le_refl _))
  replace hb0 := hb0.trans (hX_W0.mono hb0.size)
  clear hX_W0
  have hzW := hb0.size
  go_cut [12, 13, 14] (fun s12 s13 s14 wx => ∃ (la : Option Addr) (lc : Nat), s12 = .slice la E.length lc ∧ s13 = .int .i64 E.length ∧ s14 = .int .i64 0 ∧ Hid (wx.ownsRow W0.heap.size 73 2 (.slice la E.length lc) E.length (cellsE E)) ∧ Below W0.heap.size W0 wx)
  case first =>
    go_region_law (first
      | (go_simp; go_at_call 75; refine (HL.out _ (HU.out.kept (below_drew' (Below.refl _ _)) (Nat.le_refl _))).mono ?_; rintro e w1 ⟨⟨v', rfl, hown⟩, hX1⟩; have hY1 := (below_drew' (Below.refl W0.heap.size W0)).trans hX1; obtain ⟨va, vc, rfl⟩ := own_form hown; have gf1 := kept_cell hY1 gf0; have gu1 := kept_cell hY1 gu0)
      | (go_simp; go_at_call 66; refine (HON.out _ _ (HF.out.kept hY1 (Nat.le_refl _)) (SlU.of_own hown).2).mono ?_; rintro e w2 ⟨⟨a2, c2, rfl, hb2⟩, hX2⟩; have hY2 := hY1.trans (hX2.mono hY1.size); have gf2 := kept_cell hY2 gf0)
      | (go_simp; go_at_call 92; refine (HLE.out _ _ _ hb2).mono ?_; rintro e w3 ⟨⟨v3, rfl, hown3⟩, hX3⟩; have hY3 := hY2.trans (hX3.mono hY2.size); obtain ⟨ea, ec, rfl⟩ := own_form hown3))
    all_goals
      have hO3 := Lib.hid (own_base hown3 hY2.size)
      go_wp2_with fail
      go_meet
      exact ⟨_, _, rfl, rfl, rfl, hO3, hY3⟩
  case rest =>
    obtain ⟨la, lc, rfl, rfl, rfl, HE1, hX1⟩ := hcut
    have HH1 := Lib.hid (HH.out.on hX1)
    obtain ⟨w1, hw1⟩ : ∃ w1, w1 = wc := ⟨_, rfl⟩
    subst hw1
    have HX1 := Lib.hid (hb0.trans (hX1.mono hzW))
    have hz1 := hX1.size
    have hzw1 : w.heap.size ≤ w1.heap.size := Nat.le_trans hzW hz1
    clear hX1 gf0 gu0 HL HON HLE HF HU
    go_wp2_with fail
    go_loopw [14] (fun i wr => ∃ (j : Nat) (O : List Ent) (a2 : Option Addr) (c2 : Nat), i = .int .i64 j ∧ j ≤ E.length ∧ Hid (O = accE most outs (E.take j)) ∧ O.length ≤ outs.length + j ∧ Hid (ScOut B sb tb most O a2 c2 wr) ∧ (∀ g, (Value.slice a2 O.length c2).ownBlock = some g → (Value.slice oa outs.length oc).ownBlock = some g ∨ w1.heap.size ≤ g) ∧ Keep (fun x => x = sb ∨ (Value.slice oa outs.length oc).ownBlock = some x) w1 wr) (fun i _ => E.length - (intOf i).toNat)
    case atStart => exact ⟨0, outs, oa, oc, rfl, Nat.zero_le _, Lib.hid (by simp [accE]), by omega, HH1, fun g e => Or.inl e, Keep.refl _ _⟩
    case round =>
      obtain ⟨j, O, a2, c2, rfl, hj, HO, hOl, HS, hg2, hK⟩ := hrel
      have hj0 : (0 : Int) ≤ (j : Int) := Int.natCast_nonneg _
      by_cases hjE : j < E.length
      · have hj1 : (j : Int) < (E.length : Int) := by omega
        have hEr : wr.ownsRow W0.heap.size 73 2 (.slice la E.length lc) E.length (cellsE E) := own_keep HE1.out hK (fun g e q => by
          have h1 := (HE1.out.lt g e).1
          rcases q with rfl | q
          · omega
          · have := HOw.out g q; omega)
        obtain ⟨b0, off, ea, hb, t0, t1⟩ := SlAt.cells2 (SlE.of_own hEr).2.at j hjE
        subst ea
        have HST := Lib.hid (accE_step most outs E j hjE)
        generalize E[j] = u at *
        go_upto_region 4 with (fail)
        obtain ⟨W2, hW2⟩ : ∃ W2, W2 = wr.alloc (.cells #[.string (S u.key), .string (S u.val)] 73) := ⟨_, rfl⟩
        have hX2 : Below wr.heap.size wr W2 := by rw [hW2]; go_grown
        have e0 : W2.cell? ⟨wr.heap.size, 0, none⟩ = some (.string (S u.key)) := by rw [hW2, World.cell?_alloc_at _ _ _ _ rfl]; rfl
        have e1 : W2.cell? ⟨wr.heap.size, 1, none⟩ = some (.string (S u.val)) := by rw [hW2, World.cell?_alloc_at _ _ _ _ rfl]; rfl
        have HS2 := Lib.hid (HS.out.on hX2)
        have hK2 := hK.on hX2
        have hzr := hK.size
        rw [← hW2]
        clear hW2 hb t0 t1 hEr HS hK
        have c3 := HS2.out.sc.c3
        have c4 := HS2.out.sc.c4
        by_cases hm : (O.length : Int) < most
        · have hmd : decide ((O.length : Int) < most) = true := by simpa using hm
          refine WQ.region (C := fun w' => Below W2.heap.size W2 w') (by kernel_rfl) (by kernel_rfl) (below_drew' (Below.refl _ _)) ?_
          refine WQ.want (by rfl) (fun K hK => ?_)
          refine ⟨.pointer (some ⟨sb, 0, none⟩), fun w' hw' => ?_, hK _ ?_⟩
          · have hq' := hw'
            go_simp
          clear hK K
          (try simp only [Act.put, List.setIfInBounds_toArray, List.set_cons_zero, List.set_cons_succ])
          refine WQ.want (by rfl) (fun K hK => ?_)
          refine ⟨.pointer (some ⟨wr.heap.size, 0, none⟩), fun w' hw' => ?_, hK _ ?_⟩
          · have hq' := hw'
            go_simp
          clear hK K
          (try simp only [Act.put, List.setIfInBounds_toArray, List.set_cons_zero, List.set_cons_succ])
          refine WQ.want (by rfl) (fun K hK => ?_)
          refine ⟨.string (S u.key), fun w' hw' => ?_, hK _ ?_⟩
          · have hq' := hw'
            have z0 := kept_cell hw' e0; have z1 := kept_cell hw' c3; have z2 := kept_cell hw' c4; go_simp
          clear hK K
          (try simp only [Act.put, List.setIfInBounds_toArray, List.set_cons_zero, List.set_cons_succ])
          refine WQ.want (by rfl) (fun K hK => ?_)
          refine ⟨.bool true, fun w' hw' => ?_, hK _ ?_⟩
          · have hq' := hw'
            go_simp
            go_at_call 102
            refine (within0 u.key _ (HS2.out.sc.kept hq' (Nat.le_refl _))).mono ?_
            rintro e w6 ⟨he, hb6⟩
            exact ⟨he, hq'.trans (hb6.mono hq'.size)⟩
          clear hK K
          (try simp only [Act.put, List.setIfInBounds_toArray, List.set_cons_zero, List.set_cons_succ])
          refine WQ.want (by rfl) (fun K hK => ?_)
          refine ⟨.bool true, fun w' hw' => ?_, hK _ ?_⟩
          · have hq' := hw'
            go_simp
          clear hK K
          (try simp only [Act.put, List.setIfInBounds_toArray, List.set_cons_zero, List.set_cons_succ])
          refine WQ.want (by rfl) (fun K hK => ?_)
          refine ⟨.pointer (some ⟨sb, 0, none⟩), fun w' hw' => ?_, hK _ ?_⟩
          · have hq' := hw'
            go_simp
          clear hK K
          (try simp only [Act.put, List.setIfInBounds_toArray, List.set_cons_zero, List.set_cons_succ])
          refine WQ.want (by rfl) (fun K hK => ?_)
          refine ⟨.pointer (some ⟨sb, 0, none⟩), fun w' hw' => ?_, hK _ ?_⟩
          · have hq' := hw'
            go_simp
          clear hK K
          (try simp only [Act.put, List.setIfInBounds_toArray, List.set_cons_zero, List.set_cons_succ])
          refine WQ.want (by rfl) (fun K hK => ?_)
          refine ⟨.pointer (some ⟨sb, 4, none⟩), fun w' hw' => ?_, hK _ ?_⟩
          · have hq' := hw'
            go_simp
          clear hK K
          (try simp only [Act.put, List.setIfInBounds_toArray, List.set_cons_zero, List.set_cons_succ])
          refine WQ.want (by rfl) (fun K hK => ?_)
          refine ⟨.slice a2 O.length c2, fun w' hw' => ?_, hK _ ?_⟩
          · have hq' := hw'
            have z0 := kept_cell hw' e0; have z1 := kept_cell hw' c3; have z2 := kept_cell hw' c4; go_simp
          clear hK K
          (try simp only [Act.put, List.setIfInBounds_toArray, List.set_cons_zero, List.set_cons_succ])
          refine WQ.want (by rfl) (fun K hK => ?_)
          refine ⟨.int .i64 O.length, fun w' hw' => ?_, hK _ ?_⟩
          · have hq' := hw'
            go_simp
          clear hK K
          (try simp only [Act.put, List.setIfInBounds_toArray, List.set_cons_zero, List.set_cons_succ])
          refine WQ.want (by rfl) (fun K hK => ?_)
          refine ⟨.pointer (some ⟨sb, 0, none⟩), fun w' hw' => ?_, hK _ ?_⟩
          · have hq' := hw'
            go_simp
          clear hK K
          (try simp only [Act.put, List.setIfInBounds_toArray, List.set_cons_zero, List.set_cons_succ])
          refine WQ.want (by rfl) (fun K hK => ?_)
          refine ⟨.pointer (some ⟨sb, 0, none⟩), fun w' hw' => ?_, hK _ ?_⟩
          · have hq' := hw'
            go_simp
          clear hK K
          (try simp only [Act.put, List.setIfInBounds_toArray, List.set_cons_zero, List.set_cons_succ])
          refine WQ.want (by rfl) (fun K hK => ?_)
          refine ⟨.pointer (some ⟨sb, 3, none⟩), fun w' hw' => ?_, hK _ ?_⟩
          · have hq' := hw'
            go_simp
          clear hK K
          (try simp only [Act.put, List.setIfInBounds_toArray, List.set_cons_zero, List.set_cons_succ])
          refine WQ.want (by rfl) (fun K hK => ?_)
          refine ⟨.int .i64 most, fun w' hw' => ?_, hK _ ?_⟩
          · have hq' := hw'
            have z0 := kept_cell hw' e0; have z1 := kept_cell hw' c3; have z2 := kept_cell hw' c4; go_simp
          clear hK K
          (try simp only [Act.put, List.setIfInBounds_toArray, List.set_cons_zero, List.set_cons_succ])
          refine WQ.want (by rfl) (fun K hK => ?_)
          refine ⟨.bool true, fun w' hw' => ?_, hK _ ?_⟩
          · have hq' := hw'
            go_simp
          clear hK K
          (try simp only [Act.put, List.setIfInBounds_toArray, List.set_cons_zero, List.set_cons_succ])
          refine WQ.want (by rfl) (fun K hK => ?_)
          refine ⟨.bool true, fun w' hw' => ?_, hK _ ?_⟩
          · have hq' := hw'
            go_simp
          clear hK K
          (try simp only [Act.put, List.setIfInBounds_toArray, List.set_cons_zero, List.set_cons_succ])
          refine WQ.done ?_
          rintro W3 hX3
          have hK3 := hK2.on hX3
          have HS3 := Lib.hid (HS2.out.on hX3)
          have e0 := kept_cell hX3 e0
          have e1 := kept_cell hX3 e1
          have c4 := HS3.out.sc.c4
          have hsl := HS3.out.sc.lt
          have hOa : accE most outs (E.take (j + 1)) = O ++ [u] := by
            rw [HST.out, ← HO.out]
            unfold addE
            rw [if_pos hm]
          have HOA := Lib.hid hOa
          have HLN := Lib.hid (show (O ++ [u]).length = O.length + 1 by simp)
          have HCL := Lib.hid (show cellsE O ++ [.string (S u.key), .string (S u.val)] = cellsE (O ++ [u]) from (cellsE_snoc O u).symm)
          clear hOa
          go_upto_region 5 with (fail)
          have c4a : ∀ x, (W3.alloc x).cell? ⟨sb, 4, none⟩ = some (.slice a2 O.length c2) := fun x => (World.cell?_alloc_past _ _ _ hsl).trans c4
          obtain ⟨W4, hW4⟩ : ∃ W4, W4 = (W3.alloc (.cells #[.string (S u.key), .string (S u.val)] 73)).drew := ⟨_, rfl⟩
          have hX4 : Below W3.heap.size W3 W4 := by rw [hW4]; exact below_drew' ((Below.refl _ _).alloc (Nat.le_refl _) _)
          have HS4 := Lib.hid (HS3.out.on hX4)
          have hcell : ∀ i v, [Value.string (S u.key), .string (S u.val)][i]? = some v → W4.cell? ((⟨W3.heap.size, 0, none⟩ : Addr).add i) = some v := fun i v hv => by
            rw [hW4]
            exact cell_drew (cell_two_new W3 _ _ _ i v hv)
          have hBz : B ≤ W4.heap.size := by have := hX4.size; have := hX3.size; have := hX2.size; omega
          go_region_law (first | (rw [← hW4]; refine step_append_own (by rfl) _ _ 43 (by rfl) B 73 i0 (.agg #[.string ByteArray.empty, .string ByteArray.empty]) 2 32 Tryz.underlying43 hi iz0 iz1 iz2 rfl (by decide) _ O.length _ (by rfl) HS4.out.row ⟨W3.heap.size, 0, none⟩ 1 1 [.string (S u.key), .string (S u.val)] (by rfl) (by rfl) hcell (ent_oneCell u) (by unfold maxLen; omega) (by omega) hBz ?_; intro vz wz hownwz hgrowwz hbz; rw [HCL.out] at hownwz; obtain ⟨ac, yc, rfl⟩ := own_form hownwz; have hNe : some sb ≠ (Value.slice a2 O.length c2).ownBlock := (fun e => by have := (HS4.out.row.lt sb e.symm).1; omega); have z4 := hgrowwz.cell HS4.out.sc.c4 hNe; have zf := (World.frozen?_of_block (hgrowwz.block sb HS4.out.sc.lt hNe)).trans (HS4.out.sc.fz 4); have HGR := Lib.hid (HS4.out.more (outs' := O ++ [u]) (oa' := ac) (oc' := yc) hgrowwz (by rw [HLN.out]; exact hownwz) hB); have HKG := Lib.hid ((hK3.on hX4).grown hgrowwz (fun g e => (hg2 g e).imp Or.inr id)); have HBZ := Lib.hid hbz; clear hownwz hgrowwz hbz hNe))
          all_goals
            rw [HLN.out] at HGR
            go_wp2_with fail
            refine ⟨⟨j + 1, O ++ [u], ac, yc, by go_num, by omega, Lib.hid HOA.out.symm, by rw [HLN.out]; omega, HGR, fun g e => ?_, HKG.out.setCell ⟨sb, 4, none⟩ (Or.inl (Or.inl rfl)) _⟩, by simp [intOf]; omega⟩
            rw [HLN.out] at e
            rcases HBZ.out with h | h
            · rw [h] at e; exact hg2 g e
            · rw [h] at e
              have := Option.some.inj e
              have := hX4.size
              have := hX3.size
              have := hX2.size
              exact Or.inr (by omega)
        · have hmd : decide ((O.length : Int) < most) = false := by simpa using hm
          refine WQ.region (C := fun w' => Below W2.heap.size W2 w') (by kernel_rfl) (by kernel_rfl) (below_drew' (Below.refl _ _)) ?_
          refine WQ.want (by rfl) (fun K hK => ?_)
          refine ⟨.pointer (some ⟨sb, 0, none⟩), fun w' hw' => ?_, hK _ ?_⟩
          · have hq' := hw'
            go_simp
          clear hK K
          (try simp only [Act.put, List.setIfInBounds_toArray, List.set_cons_zero, List.set_cons_succ])
          refine WQ.want (by rfl) (fun K hK => ?_)
          refine ⟨.pointer (some ⟨wr.heap.size, 0, none⟩), fun w' hw' => ?_, hK _ ?_⟩
          · have hq' := hw'
            go_simp
          clear hK K
          (try simp only [Act.put, List.setIfInBounds_toArray, List.set_cons_zero, List.set_cons_succ])
          refine WQ.want (by rfl) (fun K hK => ?_)
          refine ⟨.string (S u.key), fun w' hw' => ?_, hK _ ?_⟩
          · have hq' := hw'
            have z0 := kept_cell hw' e0; have z1 := kept_cell hw' c3; have z2 := kept_cell hw' c4; go_simp
          clear hK K
          (try simp only [Act.put, List.setIfInBounds_toArray, List.set_cons_zero, List.set_cons_succ])
          refine WQ.want (by rfl) (fun K hK => ?_)
          refine ⟨.bool true, fun w' hw' => ?_, hK _ ?_⟩
          · have hq' := hw'
            go_simp
            go_at_call 102
            refine (within0 u.key _ (HS2.out.sc.kept hq' (Nat.le_refl _))).mono ?_
            rintro e w6 ⟨he, hb6⟩
            exact ⟨he, hq'.trans (hb6.mono hq'.size)⟩
          clear hK K
          (try simp only [Act.put, List.setIfInBounds_toArray, List.set_cons_zero, List.set_cons_succ])
          refine WQ.want (by rfl) (fun K hK => ?_)
          refine ⟨.bool true, fun w' hw' => ?_, hK _ ?_⟩
          · have hq' := hw'
            go_simp
          clear hK K
          (try simp only [Act.put, List.setIfInBounds_toArray, List.set_cons_zero, List.set_cons_succ])
          refine WQ.want (by rfl) (fun K hK => ?_)
          refine ⟨.pointer (some ⟨sb, 0, none⟩), fun w' hw' => ?_, hK _ ?_⟩
          · have hq' := hw'
            go_simp
          clear hK K
          (try simp only [Act.put, List.setIfInBounds_toArray, List.set_cons_zero, List.set_cons_succ])
          refine WQ.want (by rfl) (fun K hK => ?_)
          refine ⟨.pointer (some ⟨sb, 0, none⟩), fun w' hw' => ?_, hK _ ?_⟩
          · have hq' := hw'
            go_simp
          clear hK K
          (try simp only [Act.put, List.setIfInBounds_toArray, List.set_cons_zero, List.set_cons_succ])
          refine WQ.want (by rfl) (fun K hK => ?_)
          refine ⟨.pointer (some ⟨sb, 4, none⟩), fun w' hw' => ?_, hK _ ?_⟩
          · have hq' := hw'
            go_simp
          clear hK K
          (try simp only [Act.put, List.setIfInBounds_toArray, List.set_cons_zero, List.set_cons_succ])
          refine WQ.want (by rfl) (fun K hK => ?_)
          refine ⟨.slice a2 O.length c2, fun w' hw' => ?_, hK _ ?_⟩
          · have hq' := hw'
            have z0 := kept_cell hw' e0; have z1 := kept_cell hw' c3; have z2 := kept_cell hw' c4; go_simp
          clear hK K
          (try simp only [Act.put, List.setIfInBounds_toArray, List.set_cons_zero, List.set_cons_succ])
          refine WQ.want (by rfl) (fun K hK => ?_)
          refine ⟨.int .i64 O.length, fun w' hw' => ?_, hK _ ?_⟩
          · have hq' := hw'
            go_simp
          clear hK K
          (try simp only [Act.put, List.setIfInBounds_toArray, List.set_cons_zero, List.set_cons_succ])
          refine WQ.want (by rfl) (fun K hK => ?_)
          refine ⟨.pointer (some ⟨sb, 0, none⟩), fun w' hw' => ?_, hK _ ?_⟩
          · have hq' := hw'
            go_simp
          clear hK K
          (try simp only [Act.put, List.setIfInBounds_toArray, List.set_cons_zero, List.set_cons_succ])
          refine WQ.want (by rfl) (fun K hK => ?_)
          refine ⟨.pointer (some ⟨sb, 0, none⟩), fun w' hw' => ?_, hK _ ?_⟩
          · have hq' := hw'
            go_simp
          clear hK K
          (try simp only [Act.put, List.setIfInBounds_toArray, List.set_cons_zero, List.set_cons_succ])
          refine WQ.want (by rfl) (fun K hK => ?_)
          refine ⟨.pointer (some ⟨sb, 3, none⟩), fun w' hw' => ?_, hK _ ?_⟩
          · have hq' := hw'
            go_simp
          clear hK K
          (try simp only [Act.put, List.setIfInBounds_toArray, List.set_cons_zero, List.set_cons_succ])
          refine WQ.want (by rfl) (fun K hK => ?_)
          refine ⟨.int .i64 most, fun w' hw' => ?_, hK _ ?_⟩
          · have hq' := hw'
            have z0 := kept_cell hw' e0; have z1 := kept_cell hw' c3; have z2 := kept_cell hw' c4; go_simp
          clear hK K
          (try simp only [Act.put, List.setIfInBounds_toArray, List.set_cons_zero, List.set_cons_succ])
          refine WQ.want (by rfl) (fun K hK => ?_)
          refine ⟨.bool false, fun w' hw' => ?_, hK _ ?_⟩
          · have hq' := hw'
            go_simp
          clear hK K
          (try simp only [Act.put, List.setIfInBounds_toArray, List.set_cons_zero, List.set_cons_succ])
          refine WQ.want (by rfl) (fun K hK => ?_)
          refine ⟨.bool false, fun w' hw' => ?_, hK _ ?_⟩
          · have hq' := hw'
            go_simp
          clear hK K
          (try simp only [Act.put, List.setIfInBounds_toArray, List.set_cons_zero, List.set_cons_succ])
          refine WQ.done ?_
          rintro W3 hX3
          have hK3 := hK2.on hX3
          have HS3 := Lib.hid (HS2.out.on hX3)
          have hOa : accE most outs (E.take (j + 1)) = O := by
            rw [HST.out, ← HO.out]
            unfold addE
            rw [if_neg hm]
          go_wp2_with fail
          exact ⟨⟨j + 1, O, a2, c2, by go_num, by omega, Lib.hid hOa.symm, by omega, HS3, hg2, hK3⟩, by simp [intOf]; omega⟩
      · obtain rfl : j = E.length := by omega
        rw [List.take_length] at HO
        go_wp2_with fail
        refine bodyPost_end (v := .tuple #[]) (by simp [results, Tryz.results74, go_sem]) rfl ⟨rfl, ⟨a2, c2, by rw [← HO.out]; exact HS.out, fun g e => ?_⟩, (Keep.of_below HX1.out).trans' hK⟩
        rw [← HO.out] at e
        exact (hg2 g e).imp id (fun h => by omega)

end Go.Proofs.YtafciefjlkdecaaGreat
