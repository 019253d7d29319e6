/-
  The walks of a scan: of a leaf; where the first load fails.
-/
import Derived.Test.YtafciefjlkdecaaGreatTrs
import Derived.Test.YtafciefjlkdecaaGreatTrd
namespace Go.Proofs.YtafciefjlkdecaaGreat
open Go.RowKit
attribute [local go_sem ↓] Go.wp_at_zero Go.wp_at_succ

set_option maxRecDepth 100000 in
set_option maxHeartbeats 4000000 in
theorem vertex_fail {sb tb vb : Nat} {most : Int} {out : Value} {h : Int} {er : Int} {b : Option Addr} {m d : Nat} (w : World) (hs : ScAt w sb tb most out) (hf : FetchBad tb vb h er w) (he : er ≠ 0) :
    Calls Tryz.prog 43 #[.pointer (some ⟨sb, 0, none⟩), .pointer (some ⟨vb, 0, none⟩), .int .i64 h, .agg #[.slice b m d]] w fun e w' => e = .returned (.int .i64 er) ∧ Below w.heap.size w w' := by
  have he' : (er != 0) = true := by simpa using he
  have hb0 := Below.refl w.heap.size w
  have HS := Lib.hid hs
  clear hs
  go_enter Tryz.func43, Tryz.ntmps43
  go_upto_region 1 with (fail)
  obtain ⟨W, hW_W⟩ : ∃ W, W = (w.alloc (.cells #[.slice b m d] 103)) := ⟨_, rfl⟩
  rw [← hW_W]
  have hX_W : Below w.heap.size w W := by rw [hW_W]; go_grown
  have gu0 : W.cell? ⟨w.heap.size, 0, none⟩ = some (.slice b m d) := by rw [hW_W, World.cell?_alloc_at _ _ _ _ (by simp)]; rfl
  clear hW_W
  have hz_W := hX_W.size
  replace HS := Lib.hid (HS.out.kept hX_W (Nat.le_refl _))
  replace hb0 := hb0.trans (hX_W.mono hb0.size)
  clear hX_W
  have c0 := HS.out.c0
  go_wp2_with fail
  refine (thread (hf W hb0) W.heap.size W (Below.refl _ _) (Nat.le_refl _)).mono ?_
  rintro e w2 ⟨rfl, hX, -, -, -, hz⟩
  have hB2 := hb0.trans (hX.mono hb0.size)
  go_wp2_with fail
  go_ret
  exact ⟨rfl, hB2⟩

set_option maxRecDepth 100000 in
set_option maxHeartbeats 4000000 in
theorem vertex_leaf {B sb tb vb : Nat} {most : Int} {outs : List Ent} {oa : Option Addr} {oc : Nat} {b : Option Addr} {m d : Nat} {es : List Ent} {us : List Upd} (ld : Bool) (w : World) (h : ScOut B sb tb most outs oa oc w) (hB : sb < B) (hBw : B ≤ w.heap.size) (hf : FetchLeaf tb vb es ld w) (hu : BoxU w (.agg #[.slice b m d]) us) (he : es.length ≤ 10000) (hr : Rising Ent.key es) (hfi : FineE es) (hul : us.length ≤ 10000) (huw : ∀ u ∈ us, u.Wf) (ho : outs.length ≤ 10000) :
    Calls Tryz.prog 43 #[.pointer (some ⟨sb, 0, none⟩), .pointer (some ⟨vb, 0, none⟩), .int .i64 1, .agg #[.slice b m d]] w fun e w' => e = .returned (.int .i64 0) ∧ (∃ oa' oc', ScOut B sb tb most (accE most outs (onAll es us)) oa' oc' w' ∧ ∀ g, (Value.slice oa' (accE most outs (onAll es us)).length oc').ownBlock = some g → (Value.slice oa outs.length oc).ownBlock = some g ∨ w.heap.size ≤ g) ∧ Keep (fun x => x = sb ∨ (Value.slice oa outs.length oc).ownBlock = some x) w w' := by
  have hb0 := Below.refl w.heap.size w
  have HS := Lib.hid h
  have HU := Lib.hid hu
  clear h hu
  go_enter Tryz.func43, Tryz.ntmps43
  go_upto_region 1 with (fail)
  obtain ⟨W, hW_W⟩ : ∃ W, W = (w.alloc (.cells #[.slice b m d] 103)) := ⟨_, rfl⟩
  rw [← hW_W]
  have hX_W : Below w.heap.size w W := by rw [hW_W]; go_grown
  have gu0 : W.cell? ⟨w.heap.size, 0, none⟩ = some (.slice b m d) := by rw [hW_W, World.cell?_alloc_at _ _ _ _ (by simp)]; rfl
  clear hW_W
  have hz_W := hX_W.size
  replace HS := Lib.hid (HS.out.kept hX_W (Nat.le_refl _))
  replace HU := Lib.hid (HU.out.kept hX_W (Nat.le_refl _))
  replace hb0 := hb0.trans (hX_W.mono hb0.size)
  clear hX_W
  have c0 := HS.out.sc.c0
  go_wp2_with fail
  refine (thread (hf W hb0) W.heap.size W (Below.refl _ _) (Nat.le_refl _)).mono ?_
  rintro e w2 ⟨⟨b', kn, pa, pg, ps, a, c, cs, us', ks, rfl, hv, hbx⟩, hX_w2, -, -, -, hz⟩
  have HV := Lib.hid hv
  have HBX := Lib.hid hbx
  clear hv hbx
  replace gu0 := kept_cell hX_w2 gu0
  replace HS := Lib.hid (HS.out.kept hX_w2 (Nat.le_refl _))
  replace HU := Lib.hid (HU.out.kept hX_w2 (Nat.le_refl _))
  replace hb0 := hb0.trans (hX_w2.mono hb0.size)
  clear hX_w2
  have v5 := HV.out.c5
  have hzz := hb0.size
  go_upto_region 5 with (fail)
  have hd : Below w2.heap.size w2 w2.drew := below_drew' (Below.refl _ _)
  go_region_law (first | (go_simp; go_at_call 74; refine (entries0 _ (HS.out.on hd) hB (by show B ≤ w2.heap.size; omega) (HBX.out.kept hd (Nat.le_refl _)) (HU.out.kept hd (Nat.le_refl _)) he hr hfi hul huw ho).mono ?_; rintro e w4 ⟨rfl, ⟨oa', oc', h4, hg4⟩, hK4⟩))
  all_goals
    have H4 := Lib.hid h4
    have hK : Keep (fun x => x = sb ∨ (Value.slice oa outs.length oc).ownBlock = some x) w w4 := (Keep.of_below (hb0.trans (hd.mono hb0.size))).trans' hK4
    have HG := Lib.hid hg4
    clear h4 hg4 hK4
    go_wp2_with fail
    go_ret
    refine ⟨rfl, ⟨oa', oc', H4.out, fun g e => (HG.out g e).imp id (fun q => ?_)⟩, hK⟩
    have : w2.heap.size ≤ g := q
    omega

set_option maxRecDepth 100000 in
set_option maxHeartbeats 4000000 in
theorem scan_fail {tb : Nat} {F B L : Int} {ld : Value} {root : Nat} {h' : Int} {gone : Value} {fl le : Int} (most er : Int) (w : World) (ht : TrAt w tb F B L ld root h' gone fl le) (hf : FetchBad tb root h' er w) (he : er ≠ 0) :
    Calls Tryz.prog 17 #[.pointer (some ⟨tb, 0, none⟩), .string ⟨#[]⟩, .string ⟨#[]⟩, .int .i64 most] w fun e w' => e = .returned (.tuple #[.slice none 0 0, .int .i64 er]) ∧ Below w.heap.size w w' := by
  have he' : (er != 0) = true := by simpa using he
  have hb0 := Below.refl w.heap.size w
  have HT := Lib.hid ht
  clear ht
  go_enter Tryz.func17, Tryz.ntmps17
  go_upto_region 4 with (fail)
  obtain ⟨W, hW⟩ : ∃ W, W = w.alloc (.cells #[.pointer (some ⟨tb, 0, none⟩), .string ⟨#[]⟩, .string ⟨#[]⟩, .int .i64 most, .slice none 0 0] 115) := ⟨_, rfl⟩
  have HS := Lib.hid (show ScAt W w.heap.size tb most (.slice none 0 0) from ⟨by rw [hW]; exact RowIs.new _ _ [.pointer (some ⟨tb, 0, none⟩), .string ⟨#[]⟩, .string ⟨#[]⟩, .int .i64 most, .slice none 0 0]⟩)
  have hX : Below w.heap.size w W := by rw [hW]; go_grown
  rw [← hW]
  clear hW
  have HT1 := Lib.hid (HT.out.on hX)
  have c4 := HT1.out.c4
  have c5 := HT1.out.c5
  have HVF := Lib.hid (fun w' (hq : Below W.heap.size W w') => vertex_fail (b := none) (m := 0) (d := 0) w' (HS.out.on hq) (fun w1 h1 => hf w1 ((hX.trans (hq.mono hX.size)).trans (h1.mono (Nat.le_trans hX.size hq.size)))) he)
  refine WQ.region (C := fun w' => Below W.heap.size W w') (by kernel_rfl) (by kernel_rfl) (below_drew' (Below.refl _ _)) ?_
  refine WQ.want (by rfl) (fun K hK => ?_)
  refine ⟨.pointer (some ⟨w.heap.size, 0, none⟩), fun w' hw' => ?_, hK _ ?_⟩
  · have hq' := hw'
    go_simp
  clear hK K
  (try simp only [Act.put, List.setIfInBounds_toArray, List.set_cons_zero, List.set_cons_succ])
  refine WQ.want (by rfl) (fun K hK => ?_)
  refine ⟨.pointer (some ⟨tb, 0, none⟩), fun w' hw' => ?_, hK _ ?_⟩
  · have hq' := hw'
    go_simp
  clear hK K
  (try simp only [Act.put, List.setIfInBounds_toArray, List.set_cons_zero, List.set_cons_succ])
  refine WQ.want (by rfl) (fun K hK => ?_)
  refine ⟨.pointer (some ⟨tb, 0, none⟩), fun w' hw' => ?_, hK _ ?_⟩
  · have hq' := hw'
    go_simp
  clear hK K
  (try simp only [Act.put, List.setIfInBounds_toArray, List.set_cons_zero, List.set_cons_succ])
  refine WQ.want (by rfl) (fun K hK => ?_)
  refine ⟨.pointer (some ⟨tb, 4, none⟩), fun w' hw' => ?_, hK _ ?_⟩
  · have hq' := hw'
    go_simp
  clear hK K
  (try simp only [Act.put, List.setIfInBounds_toArray, List.set_cons_zero, List.set_cons_succ])
  refine WQ.want (by rfl) (fun K hK => ?_)
  refine ⟨.pointer (some ⟨root, 0, none⟩), fun w' hw' => ?_, hK _ ?_⟩
  · have hq' := hw'
    have z0 := kept_cell hw' c4; have z1 := kept_cell hw' c5; go_simp
  clear hK K
  (try simp only [Act.put, List.setIfInBounds_toArray, List.set_cons_zero, List.set_cons_succ])
  refine WQ.want (by rfl) (fun K hK => ?_)
  refine ⟨.pointer (some ⟨tb, 0, none⟩), fun w' hw' => ?_, hK _ ?_⟩
  · have hq' := hw'
    go_simp
  clear hK K
  (try simp only [Act.put, List.setIfInBounds_toArray, List.set_cons_zero, List.set_cons_succ])
  refine WQ.want (by rfl) (fun K hK => ?_)
  refine ⟨.pointer (some ⟨tb, 0, none⟩), fun w' hw' => ?_, hK _ ?_⟩
  · have hq' := hw'
    go_simp
  clear hK K
  (try simp only [Act.put, List.setIfInBounds_toArray, List.set_cons_zero, List.set_cons_succ])
  refine WQ.want (by rfl) (fun K hK => ?_)
  refine ⟨.pointer (some ⟨tb, 5, none⟩), fun w' hw' => ?_, hK _ ?_⟩
  · have hq' := hw'
    go_simp
  clear hK K
  (try simp only [Act.put, List.setIfInBounds_toArray, List.set_cons_zero, List.set_cons_succ])
  refine WQ.want (by rfl) (fun K hK => ?_)
  refine ⟨.int .i64 h', fun w' hw' => ?_, hK _ ?_⟩
  · have hq' := hw'
    have z0 := kept_cell hw' c4; have z1 := kept_cell hw' c5; go_simp
  clear hK K
  (try simp only [Act.put, List.setIfInBounds_toArray, List.set_cons_zero, List.set_cons_succ])
  refine WQ.want (by rfl) (fun K hK => ?_)
  refine ⟨.agg #[.slice none 0 0], fun w' hw' => ?_, hK _ ?_⟩
  · have hq' := hw'
    go_simp
  clear hK K
  (try simp only [Act.put, List.setIfInBounds_toArray, List.set_cons_zero, List.set_cons_succ])
  refine WQ.want (by rfl) (fun K hK => ?_)
  refine ⟨.int .i64 er, fun w' hw' => ?_, hK _ ?_⟩
  · have hq' := hw'
    go_simp
    go_at_call 43
    refine (HVF.out _ hq').mono ?_
    rintro e w6 ⟨he, hb6⟩
    exact ⟨he, hq'.trans (hb6.mono hq'.size)⟩
  clear hK K
  (try simp only [Act.put, List.setIfInBounds_toArray, List.set_cons_zero, List.set_cons_succ])
  refine WQ.want (by rfl) (fun K hK => ?_)
  refine ⟨.int .i64 er, fun w' hw' => ?_, hK _ ?_⟩
  · have hq' := hw'
    go_simp
  clear hK K
  (try simp only [Act.put, List.setIfInBounds_toArray, List.set_cons_zero, List.set_cons_succ])
  refine WQ.done ?_
  rintro w2 hX2
  have hB2 := hX.trans (hX2.mono hX.size)
  go_wp2_with fail
  go_returns
  exact ⟨rfl, hB2⟩

set_option maxRecDepth 100000 in
set_option maxHeartbeats 4000000 in
theorem scan_leaf {tb : Nat} {F B L : Int} {ld : Value} {root : Nat} {gone : Value} {fl le : Int} (most : Int) (es : List Ent) (lo : Bool) (w : World) (ht : TrAt w tb F B L ld root 1 gone fl le) (hf : FetchLeaf tb root es lo w) (he : es.length ≤ 10000) (hr : Rising Ent.key es) (hfi : FineE es) :
    Calls Tryz.prog 17 #[.pointer (some ⟨tb, 0, none⟩), .string ⟨#[]⟩, .string ⟨#[]⟩, .int .i64 most] w fun e w' => (∃ oa oc, e = .returned (.tuple #[.slice oa (accE most [] es).length oc, .int .i64 0]) ∧ w'.ownsRow (w.heap.size + 1) 73 2 (.slice oa (accE most [] es).length oc) (accE most [] es).length (cellsE (accE most [] es))) ∧ Below w.heap.size w w' := by
  have hb0 := Below.refl w.heap.size w
  have HT := Lib.hid ht
  clear ht
  go_enter Tryz.func17, Tryz.ntmps17
  go_upto_region 4 with (fail)
  obtain ⟨W, hW⟩ : ∃ W, W = w.alloc (.cells #[.pointer (some ⟨tb, 0, none⟩), .string ⟨#[]⟩, .string ⟨#[]⟩, .int .i64 most, .slice none 0 0] 115) := ⟨_, rfl⟩
  have HS := Lib.hid (show ScOut (w.heap.size + 1) w.heap.size tb most [] none 0 W from ⟨⟨by rw [hW]; exact RowIs.new _ _ [.pointer (some ⟨tb, 0, none⟩), .string ⟨#[]⟩, .string ⟨#[]⟩, .int .i64 most, .slice none 0 0]⟩, World.ownsRow_nil _ _ _ _⟩)
  have hX : Below w.heap.size w W := by rw [hW]; go_grown
  have hzW : w.heap.size + 1 ≤ W.heap.size := HS.out.sc.lt
  rw [← hW]
  clear hW
  have HT1 := Lib.hid (HT.out.on hX)
  have c4 := HT1.out.c4
  have c5 := HT1.out.c5
  have hd : Below W.heap.size W W.drew := below_drew' (Below.refl _ _)
  have HVL := Lib.hid (vertex_leaf (b := none) (m := 0) (d := 0) (us := []) lo W.drew (HS.out.on hd) (Nat.lt_succ_self _) hzW (fun w1 h1 => hf w1 ((hX.trans (hd.mono hX.size)).trans (h1.mono hX.size))) ⟨_, rfl, SlU.nil _⟩ he hr hfi (by simp) (fun u hu => by simp at hu) (by simp))
  rw [show onAll es [] = es from rfl] at HVL
  go_region_law (first | (go_simp; go_at_call 43; refine HVL.out.mono ?_; rintro e w4 ⟨rfl, ⟨oa', oc', h4, -⟩, hK4⟩))
  all_goals
    have H4 := Lib.hid h4
    have k4 := H4.out.sc.c4
    have hB4 : Below w.heap.size w w4 := (hX.trans (hd.mono hX.size)).trans (hK4.below (N := w.heap.size) (by show w.heap.size ≤ W.heap.size; omega) (fun x hx => by
      rcases hx with rfl | hx
      · exact Nat.le_refl _
      · simp [Value.ownBlock] at hx))
    clear h4 hK4
    go_wp2_with fail
    go_returns
    exact ⟨⟨oa', oc', rfl, H4.out.row⟩, hB4⟩

end Go.Proofs.YtafciefjlkdecaaGreat
