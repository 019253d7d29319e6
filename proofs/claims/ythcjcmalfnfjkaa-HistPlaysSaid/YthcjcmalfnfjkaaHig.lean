/-
  The walks of law 29's may, entries, made.
-/
import Derived.Test.YthcjcmalfnfjkaaMes
import Derived.Test.YthcjcmalfnfjkaaHia
namespace Go.Proofs.Ythcjcmalfnfjkaa
open Go.RowKit Go.Maps Go.WideShapes Go.Shelf
set_option linter.unusedVariables false
attribute [local go_sem ↓] Go.wp_at_zero Go.wp_at_succ

theorem errU_may {l : List Ent} (hr : Rising Ent.key l) (u : Upd) (hc : u.check = 0) : (errU l u = 0) ↔ (u.kind ≠ 3 ∨ lookE l u.key = none ∨ ∃ v, lookE l u.key = some v ∧ v.length = 8) := by
  unfold errU
  rw [if_neg (by simp [hc]), lookE_has hr]
  cases hl : lookE l u.key with
  | none => simp
  | some v =>
    by_cases h1 : u.kind = 3
    · by_cases h2 : v.length = 8
      · simp [h1, h2]
      · simp [h1, h2]
    · simp [h1]

set_option maxRecDepth 100000 in
set_option maxHeartbeats 4000000 in
theorem may_any (ao : Option Addr) (c : Nat) (l : List Ent) (u : Upd) (w : World) (hs : SlAt Ent.cells 2 w ao l) (hr : Rising Ent.key l) (hl : l.length ≤ 1000000) (hc : u.check = 0) :
    Calls Try.prog 15 #[.slice ao l.length c, .agg #[.int .u8 u.kind, .string (S u.key), .string (S u.val), .int .u64 u.delta]] w fun e w' => e = .returned (.bool (decide (errU l u = 0))) ∧ Below w.heap.size w w' := by
  have HS := Lib.hid hs
  have hmay := errU_may hr u hc
  have hk3 := (Upd.check_ok hc).2.2.2
  have hget := fun w (h : SlAt Ent.cells 2 w ao l) => refEGet_any ao c l u.key w hl h
  generalize hb : decide (errU l u = 0) = bb
  have HB : Hid (bb = decide (u.kind ≠ 3 ∨ lookE l u.key = none ∨ ∃ v, lookE l u.key = some v ∧ v.length = 8)) := Lib.hid (by rw [← hb]; exact decide_eq_decide.2 hmay)
  have HG := Lib.hid hget
  clear hs hmay hget hb hc hr
  cases hlk : lookE l u.key with
  | none =>
    rw [hlk] at HG HB
    obtain rfl : bb = true := by rw [HB.out]; simp
    clear HB hlk
    by_cases h3 : u.kind = 3
    · have H3 := Lib.hid (show ((u.kind : Nat) : Int) = 3 by omega)
      clear h3
      go_enter Try.func15, Try.ntmps15
      go_upto_region 1 with (fail)
      obtain ⟨W, hW⟩ : ∃ W, W = w.alloc (.cells #[.int .u8 u.kind, .string (S u.key), .string (S u.val), .int .u64 u.delta] 37) := ⟨_, rfl⟩
      rw [← hW]
      have hX : Below w.heap.size w W := by rw [hW]; go_grown
      have q0 : W.cell? ⟨w.heap.size, 0, none⟩ = some (.int .u8 3) := by rw [hW, World.cell?_alloc_at _ _ _ _ rfl, H3.out]; rfl
      have q1 : W.cell? ⟨w.heap.size, 1, none⟩ = some (.string (S u.key)) := by rw [hW]; simp
      have hSW := HS.out.kept hX (Nat.le_refl _)
      have HX := Lib.hid hX
      clear hW hX
      go_wp2_with fail
      refine (HG.out W hSW).mono ?_
      rintro e w2 ⟨rfl, hB2⟩
      have p0 := kept_cell hB2 q0
      have HB2 := Lib.hid (HX.out.trans (hB2.mono HX.out.size))
      clear hB2 q0 q1 hSW
      simp only [valV]
      go_wp2_with fail
      go_ret
      exact ⟨rfl, HB2.out⟩
    · have h3' : ¬ (u.kind : Int) = 3 := by omega
      clear h3
      go_enter Try.func15, Try.ntmps15
      go_upto_region 1 with (fail)
      obtain ⟨W, hW⟩ : ∃ W, W = w.alloc (.cells #[.int .u8 u.kind, .string (S u.key), .string (S u.val), .int .u64 u.delta] 37) := ⟨_, rfl⟩
      rw [← hW]
      have hX : Below w.heap.size w W := by rw [hW]; go_grown
      have q0 : W.cell? ⟨w.heap.size, 0, none⟩ = some (.int .u8 u.kind) := by rw [hW, World.cell?_alloc_at _ _ _ _ rfl, show (u.kind : Int) = u.kind from rfl]; rfl
      have q1 : W.cell? ⟨w.heap.size, 1, none⟩ = some (.string (S u.key)) := by rw [hW]; simp
      have hSW := HS.out.kept hX (Nat.le_refl _)
      have HX := Lib.hid hX
      clear hW hX
      go_wp2_with fail
      refine (HG.out W hSW).mono ?_
      rintro e w2 ⟨rfl, hB2⟩
      have p0 := kept_cell hB2 q0
      have HB2 := Lib.hid (HX.out.trans (hB2.mono HX.out.size))
      clear hB2 q0 q1 hSW
      simp only [valV]
      go_wp2_with fail
      go_ret
      exact ⟨rfl, HB2.out⟩
  | some v =>
    rw [hlk] at HG HB
    clear hlk
    by_cases h3 : u.kind = 3
    · have H3 := Lib.hid (show ((u.kind : Nat) : Int) = 3 by omega)
      by_cases h8 : v.length = 8
      · have h8' : (v.length : Int) = 8 := by omega
        obtain rfl : bb = true := by rw [HB.out]; simp [h8]
        clear HB h8 h3
        go_enter Try.func15, Try.ntmps15
        go_upto_region 1 with (fail)
        obtain ⟨W, hW⟩ : ∃ W, W = w.alloc (.cells #[.int .u8 u.kind, .string (S u.key), .string (S u.val), .int .u64 u.delta] 37) := ⟨_, rfl⟩
        rw [← hW]
        have hX : Below w.heap.size w W := by rw [hW]; go_grown
        have q0 : W.cell? ⟨w.heap.size, 0, none⟩ = some (.int .u8 3) := by rw [hW, World.cell?_alloc_at _ _ _ _ rfl, H3.out]; rfl
        have q1 : W.cell? ⟨w.heap.size, 1, none⟩ = some (.string (S u.key)) := by rw [hW]; simp
        have hSW := HS.out.kept hX (Nat.le_refl _)
        have HX := Lib.hid hX
        clear hW hX
        go_wp2_with fail
        refine (HG.out W hSW).mono ?_
        rintro e w2 ⟨rfl, hB2⟩
        have p0 := kept_cell hB2 q0
        have HB2 := Lib.hid (HX.out.trans (hB2.mono HX.out.size))
        clear hB2 q0 q1 hSW
        simp only [valV]
        go_wp2_with fail
        go_ret
        exact ⟨rfl, HB2.out⟩
      · have h8' : ¬ (v.length : Int) = 8 := by omega
        obtain rfl : bb = false := by rw [HB.out]; simp [h8, h3]
        clear HB h8 h3
        go_enter Try.func15, Try.ntmps15
        go_upto_region 1 with (fail)
        obtain ⟨W, hW⟩ : ∃ W, W = w.alloc (.cells #[.int .u8 u.kind, .string (S u.key), .string (S u.val), .int .u64 u.delta] 37) := ⟨_, rfl⟩
        rw [← hW]
        have hX : Below w.heap.size w W := by rw [hW]; go_grown
        have q0 : W.cell? ⟨w.heap.size, 0, none⟩ = some (.int .u8 3) := by rw [hW, World.cell?_alloc_at _ _ _ _ rfl, H3.out]; rfl
        have q1 : W.cell? ⟨w.heap.size, 1, none⟩ = some (.string (S u.key)) := by rw [hW]; simp
        have hSW := HS.out.kept hX (Nat.le_refl _)
        have HX := Lib.hid hX
        clear hW hX
        go_wp2_with fail
        refine (HG.out W hSW).mono ?_
        rintro e w2 ⟨rfl, hB2⟩
        have p0 := kept_cell hB2 q0
        have HB2 := Lib.hid (HX.out.trans (hB2.mono HX.out.size))
        clear hB2 q0 q1 hSW
        simp only [valV]
        go_wp2_with fail
        go_ret
        exact ⟨ret_val (congrArg Value.bool (by simp; omega)), HB2.out⟩
    · have h3' : ¬ (u.kind : Int) = 3 := by omega
      obtain rfl : bb = true := by rw [HB.out]; simp [h3]
      clear HB h3
      go_enter Try.func15, Try.ntmps15
      go_upto_region 1 with (fail)
      obtain ⟨W, hW⟩ : ∃ W, W = w.alloc (.cells #[.int .u8 u.kind, .string (S u.key), .string (S u.val), .int .u64 u.delta] 37) := ⟨_, rfl⟩
      rw [← hW]
      have hX : Below w.heap.size w W := by rw [hW]; go_grown
      have q0 : W.cell? ⟨w.heap.size, 0, none⟩ = some (.int .u8 u.kind) := by rw [hW, World.cell?_alloc_at _ _ _ _ rfl, show (u.kind : Int) = u.kind from rfl]; rfl
      have q1 : W.cell? ⟨w.heap.size, 1, none⟩ = some (.string (S u.key)) := by rw [hW]; simp
      have hSW := HS.out.kept hX (Nat.le_refl _)
      have HX := Lib.hid hX
      clear hW hX
      go_wp2_with fail
      refine (HG.out W hSW).mono ?_
      rintro e w2 ⟨rfl, hB2⟩
      have p0 := kept_cell hB2 q0
      have HB2 := Lib.hid (HX.out.trans (hB2.mono HX.out.size))
      clear hB2 q0 q1 hSW
      simp only [valV]
      go_wp2_with fail
      go_ret
      exact ⟨rfl, HB2.out⟩

set_option maxRecDepth 100000 in
set_option maxHeartbeats 8000000 in
theorem entries_any (ao : Option Addr) (c : Nat) (l : List Ent) (w : World) (hs : SlAt Ent.cells 2 w ao l) (hl : l.length ≤ 1000) :
    Calls Try.prog 21 #[.slice ao l.length c] w fun e w' => (∃ v, e = .returned v ∧ w'.ownsRow w.heap.size 55 2 v l.length (cellsE l)) ∧ Below w.heap.size w w' := by
  obtain ⟨j0, hjE, jz0, jz1, jz2⟩ := info_parts infoE
  have HS := Lib.hid hs
  clear hs
  go_enter Try.func21, Try.ntmps21
  go_wp2_with fail
  go_loopw [8, 3] (fun i v wr => ∃ (j : Nat), i = .int .i64 j ∧ j ≤ l.length ∧ wr.ownsRow w.heap.size 55 2 v j (cellsE (l.take j)) ∧ Below w.heap.size w wr) (fun i _ _ => l.length - (intOf i).toNat)
  case atStart => exact ⟨0, rfl, Nat.zero_le _, by simpa [cellsE] using World.ownsRow_nil w w.heap.size 55 2, Below.refl _ _⟩
  case round =>
    obtain ⟨j, rfl, hj, hown, hB⟩ := hrel
    have hj0 : (0 : Int) ≤ (j : Int) := Int.natCast_nonneg _
    obtain ⟨ov, oc, eo⟩ := own_form hown
    subst eo
    have HO := Lib.hid hown
    clear hown
    have hzr := hB.size
    by_cases hjl : j < l.length
    · have hj1 : (j : Int) < (l.length : Int) := by omega
      obtain ⟨b, off, rfl, hb, t0, t1⟩ := SlAt.cells2 HS.out j hjl
      have q0 := (cell_below hB hb _).trans t0
      have q1 := (cell_below hB hb _).trans t1
      have HT := Lib.hid (show l.take (j + 1) = l.take j ++ [l[j]] from List.take_succ_eq_append_getElem hjl)
      clear t0 t1
      generalize l[j] = u at *
      go_wp2_with (at_builtin; go_must (refine wpList_append_own_at _ rfl (.tmp 12) (.tmp 14) 49 rfl w.heap.size 55 j0 (.agg #[.string ByteArray.empty, .string ByteArray.empty]) 2 32 Try.underlying49 hjE jz0 jz1 jz2 rfl (by decide) _ j _ rfl ((HO.out.alloc _).alloc _) ⟨wr.heap.size + 1, 0, none⟩ 1 1 [.string (S u.key), .string (S u.val)] rfl rfl (cell_twoM _ _ (by simp) _ _ _) (two_oneM _ _) (by unfold maxLen; omega) (by omega) (by simp; omega) ?_; intro vz wz hownwz hgrowwz hzz hbz))
      go_wp2_with fail
      exact ⟨⟨j + 1, by go_num, by omega, by rw [HT.out, cellsE_snocM]; exact hownwz, below_grown ((hB.alloc (by omega) _).alloc (by simp; omega) _) hgrowwz (fun k e => (HO.out.lt k e).1) (by simp; omega)⟩, by simp [intOf]; omega⟩
    · obtain rfl : j = l.length := by omega
      have hh := HO.out
      rw [List.take_length] at hh
      have HF := Lib.hid hh
      clear hh
      go_wp2_with fail
      go_ret
      exact ⟨⟨_, rfl, HF.out⟩, hB⟩

set_option maxRecDepth 100000 in
set_option maxHeartbeats 8000000 in
theorem made_any (ao : Option Addr) (c : Nat) (us : List Upd) (w : World) (hs : SlAt Upd.cells 4 w ao us) (hw : ∀ u ∈ us, u.Wf) (hl : us.length ≤ 900) :
    Calls Try.prog 16 #[.slice ao us.length c] w fun e w' => (∃ a c', e = .returned (.slice a (onAll [] us).length c') ∧ SlE w' (.slice a (onAll [] us).length c') (onAll [] us)) ∧ Below w.heap.size w w' := by
  have HS := Lib.hid hs
  have HW := Lib.hid hw
  clear hs hw
  go_enter Try.func16, Try.ntmps16
  go_wp2_with fail
  go_loopw [8, 3] (fun i v wr => ∃ (j : Nat) (a : Option Addr) (n c' : Nat), i = .int .i64 j ∧ j ≤ us.length ∧ v = .slice a n c' ∧ Hid (n = (onAll [] (us.take j)).length) ∧ Hid (SlE wr (.slice a n c') (onAll [] (us.take j))) ∧ Below w.heap.size w wr) (fun i _ _ => us.length - (intOf i).toNat)
  case atStart => exact ⟨0, none, 0, 0, rfl, Nat.zero_le _, rfl, Lib.hid (by simp [onAll]), Lib.hid (by simpa [onAll] using SlE.nil w), Below.refl _ _⟩
  case round =>
    obtain ⟨j, a, n, c', rfl, hj, rfl, HN, HE, hB⟩ := hrel
    have hj0 : (0 : Int) ≤ (j : Int) := Int.natCast_nonneg _
    have hzr := hB.size
    by_cases hjl : j < us.length
    · have hj1 : (j : Int) < (us.length : Int) := by omega
      obtain ⟨b, off, rfl, hb, t0, t1, t2, t3⟩ := SlAt.cells4 HS.out j hjl
      have q0 := (cell_below hB hb _).trans t0
      have q1 := (cell_below hB hb _).trans t1
      have q2 := (cell_below hB hb _).trans t2
      have q3 := (cell_below hB hb _).trans t3
      have HT := Lib.hid (onAll_take us j hjl)
      have hwf := HW.out _ (List.getElem_mem hjl)
      have hfit := onAll_fit (us.take j)
      rw [List.length_take] at hfit
      have HR := Lib.hid hfit.1
      have hfl := hfit.2.2
      clear t0 t1 t2 t3 hfit
      generalize us[j] = u at *
      generalize onAll [] (us.take j) = lj at *
      go_upto_region 5 with (fail)
      have hX : Below wr.heap.size wr (wr.alloc (.cells #[.int .u8 u.kind, .string (S u.key), .string (S u.val), .int .u64 u.delta] 37)) := by go_grown
      have HX := Lib.hid hX
      clear hX
      go_wp2_with fail
      refine (refEOn_any a n c' lj u.kind u.key u.val u.delta _ HN.out (HE.out.kept HX.out (Nat.le_refl _)) HR.out (by omega) hwf.1 hwf.2).mono ?_
      rintro e w2 ⟨⟨a2, c2, rfl, hse⟩, hB2⟩
      have HE2 := Lib.hid hse
      have hz2 := hB2.size
      have hB3 : Below w.heap.size w w2 := hB.trans ((HX.out.mono hzr).trans (hB2.mono (by simp; omega)))
      clear hse hB2
      go_wp2_with fail
      exact ⟨⟨j + 1, a2, _, c2, by go_num, by omega, rfl, Lib.hid (by rw [HT.out]), Lib.hid (by rw [HT.out]; exact HE2.out), hB3⟩, by simp [intOf]; omega⟩
    · obtain rfl : j = us.length := by omega
      rw [List.take_length] at HN HE
      have hn := HN.out
      subst hn
      go_wp2_with fail
      go_ret
      exact ⟨⟨_, _, rfl, HE.out⟩, hB⟩

end Go.Proofs.Ythcjcmalfnfjkaa
