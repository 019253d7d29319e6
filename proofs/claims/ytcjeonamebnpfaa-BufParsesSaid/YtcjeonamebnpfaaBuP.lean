/-
  The walk of BufParses.
-/
import Derived.Test.YtcjeonamebnpfaaBufH
import Derived.Test.YtcjeonamebnpfaaSameU
import Derived.Test.YtcjeonamebnpfaaWake
import Derived.Test.YtcjeonamebnpfaaOrdL
import Derived.Test.YtcjeonamebnpfaaOpen
import Derived.Test.YtcjeonamebnpfaaBytI
import Derived.Test.YtcjeonamebnpfaaRef12
import Derived.Test.YtcjeonamebnpfaaTwoA
import Derived.BigRegion
import Derived.Deep.DeepCutAuto
namespace Go.Proofs.Ytcjeonamebnpfaa
open Go.RowKit
attribute [local go_sem ↓] Go.wp_at_zero Go.wp_at_succ

theorem elemI : Try.prog.elem 22 = 28 := by kernel_rfl
theorem underI : Try.prog.underlying 22 = some (.slice (Try.prog.elem 22)) := by rw [elemI]; exact Try.underlying22
theorem sizeElemI (w : World) : (sizeOf (Try.prog.elem 22)).run Try.prog w = .ok 4 w := by kernel_rfl
theorem cut_itemsI (ao : Option Addr) (n c i : Nat) (hin : i ≤ n) (hnc : n ≤ c) (w : World) : (Instr.slice 22 (.slice ao n c) none (some (.int .i64 (i : Int))) none).run Try.prog w = .ok (.slice ao i c) w := by
  rw [run_slice_h w 22 ao n c underI .i64 i (by omega) (by omega)]
  rw [sizeElemI]
  have e : ao.map (·.add 0) = ao := by cases ao <;> simp [Addr.add]
  simp [Result.andThen, sliced, e]

/-- What came of buf.Of, rising or not. -/
def OfD (w' : World) (l : List Upd) (rb : Bool) (a : Option Addr) (n c : Nat) (eno : Int) : Prop :=
  (rb = true ∧ eno = 0 ∧ n = l.length ∧ BoxU w' (.agg #[.slice a n c]) l) ∨ (rb = false ∧ eno = 2 ∧ n = 0)
theorem BfRes.any {B : Nat} {l : List Upd} {e : Ending} {w' : World} (h : BfRes B (ofU l) e w') : ∃ a n c eno, e = .returned (.tuple #[.agg #[.slice a n c], .int .i64 eno]) ∧ OfD w' l (risingB l) a n c eno := by
  unfold ofU at h
  cases hr : risingB l with
  | true =>
    rw [if_pos hr] at h
    obtain ⟨a, c, he, ho⟩ := h
    exact ⟨a, _, c, 0, he, Or.inl ⟨rfl, rfl, rfl, BoxU.of_own ho⟩⟩
  | false =>
    rw [if_neg (by simp [hr])] at h
    obtain ⟨a, c, he, ho⟩ := h
    exact ⟨a, 0, c, 2, he, Or.inr ⟨rfl, rfl, rfl⟩⟩
theorem SlU.at' {w : World} {a : Option Addr} {n c : Nat} {l : List Upd} (h : SlU w (.slice a n c) l) : SlAt Upd.cells 4 w a l := by
  obtain ⟨x, y, e, h2, -⟩ := h
  simp only [Value.slice.injEq] at e
  obtain ⟨rfl, -, rfl⟩ := e
  exact h2
/-- An update that tame made. -/
def Tamed (u : Upd) : Prop := u.Wf ∧ u.key.length ≤ 3 ∧ u.val.length ≤ 20
theorem textAcc_34 : ∀ (l : List Upd) (acc : List UInt8), (∀ u ∈ l, Tamed u) → (textAcc acc l).1.length ≤ acc.length + 40 * l.length
  | [], acc, _ => by simp [textAcc]
  | u :: l, acc, h => by
    unfold textAcc
    split
    · have h1 := textAcc_34 l (acc ++ u.bytes) (fun x hx => h x (List.mem_cons_of_mem _ hx))
      obtain ⟨-, h2, h3⟩ := h u (List.mem_cons_self ..)
      have h4 : u.bytes.length ≤ 40 := by
        unfold Upd.bytes
        simp only [List.length_append, List.length_cons, List.length_nil]
        split <;> split <;> simp <;> omega
      rw [List.length_append] at h1
      rw [List.length_cons]; omega
    · simp
theorem tamed_snoc {F : List Upd} {T : Upd} (h : ∀ u ∈ F, Tamed u) (hT : Tamed T) : ∀ u ∈ F ++ [T], Tamed u := fun x hx => by
  rcases List.mem_append.1 hx with h1 | h1
  · exact h x h1
  · rw [List.mem_singleton] at h1; rw [h1]; exact hT

set_option maxRecDepth 100000 in
set_option maxHeartbeats 8000000 in
theorem bufParses_walk (v : Value) (l : List Upd) (raw : List UInt8) (x y : Nat) (w : World) (hl : ArgUpds w v l) (hx : x < 65536) :
    Calls Try.prog 10 #[v, .string (S raw), .agg #[.int .u16 x, .int .u16 y]] w fun e w' => e = .returned (.bool true) ∧ Below w.heap.size w w' := by
  obtain ⟨i0, hi, iz0, iz1, iz2⟩ := info_parts infoU
  obtain ⟨j0, hji, jz0, jz1, jz2⟩ := info_parts infoV
  have hmin := fun ts t a b w => run_tmin (P := Try.prog) ts t a b w
  have hm : tmin (l.length : Int) 8 = ((min l.length 8 : Nat) : Int) := tmin_nat _ 8
  obtain ⟨hform, hwf, hsize⟩ := hl
  obtain ⟨ao, c, rfl, hxs, hc1, hc2, hn⟩ := hform
  generalize hM : min l.length 8 = m at *
  have hmx : m ≤ l.length := by omega
  have hm8 : m ≤ 8 := by omega
  have hcut := fun W => cut_itemsI ao l.length c m hmx hc1 W
  clear hn hc2
  go_enter Try.func10, Try.ntmps10
  go_wp2_with fail
  go_loopw [30, 7, 8] (fun i av mv wr => ∃ (k : Nat) (F : List Upd), i = .int .i64 k ∧ k ≤ m ∧ F.length = k ∧ Hid (∀ u ∈ F, Tamed u) ∧ wr.ownsRow (w.heap.size + 1) 31 4 av k (cellsU F) ∧ wr.ownsRow (w.heap.size + 1) 32 4 mv k (cellsU F) ∧ Below (w.heap.size + 1) (w.alloc (.cells #[.int .u16 x, .int .u16 y] 72)) wr) (fun i _ _ _ => m - (intOf i).toNat)
  case atStart => exact ⟨0, [], rfl, Nat.zero_le _, rfl, Lib.hid (fun u hu => by simp at hu), World.ownsRow_nil _ _ _ _, World.ownsRow_nil _ _ _ _, Below.refl _ _⟩
  case round =>
    obtain ⟨k, F, rfl, hk, hF, hsm, hown, hownm, hB⟩ := hrel
    have hk0 : (0 : Int) ≤ (k : Int) := Int.natCast_nonneg _
    have hsz1 : w.heap.size + 1 ≤ wr.heap.size := by have := hB.size; simpa using this
    have hBw : Below w.heap.size w wr := (Below.alloc (Below.refl _ w) (Nat.le_refl _) (.cells #[.int .u16 x, .int .u16 y] 72)).trans (hB.mono (Nat.le_succ _))
    obtain ⟨av, ac, ea⟩ := own_form hown
    subst ea
    obtain ⟨mv, mc, em⟩ := own_form hownm
    subst em
    have HO := Lib.hid hown
    have HM := Lib.hid hownm
    have HF := Lib.hid hF
    by_cases hkm : k < m
    · have hk1 : (k : Int) < (m : Int) := by omega
      have hkl : k < l.length := by omega
      obtain ⟨hw1, hw2⟩ := hwf _ (List.getElem_mem hkl)
      obtain ⟨hu1, hu2⟩ := hsize _ (List.getElem_mem hkl)
      obtain ⟨b, off, rfl, hb, t0, t1, t2, t3⟩ := SlAt.cells4 hxs k hkl
      have q0 := (cell_below hBw hb _).trans t0
      have q1 := (cell_below hBw hb _).trans t1
      have q2 := (cell_below hBw hb _).trans t2
      have q3 := (cell_below hBw hb _).trans t3
      clear t0 t1 t2 t3 hown hownm hF
      generalize l[k] = u at *
      go_wp2_with fail
      refine (thread (tame_upd u _ hw1 hu1 hu2) wr.heap.size wr (by go_grown) (by go_grown)).mono ?_
      rintro e w1 ⟨⟨T, hT, rfl⟩, hX1, -, -, hs1, hz1⟩
      have hTf := tame_fits u ⟨hw1, hw2⟩
      rw [hT] at hTf
      have HT := Lib.hid hTf
      have HO1 := Lib.hid (own_below HO.out hX1)
      have HM1 := Lib.hid (own_below HM.out hX1)
      have HB1 := Lib.hid (hB.trans (hX1.mono hsz1))
      clear hX1 hTf hT q0 q1 q2 q3 hs1 hB hBw
      have HAL := Lib.hid (fun g (e : (Value.slice av k ac).ownBlock = some g) => Nat.lt_of_lt_of_le (HO.out.lt g e).2 hz1)
      have HML := Lib.hid (fun g (e : (Value.slice mv k mc).ownBlock = some g) => Nat.lt_of_lt_of_le (HM.out.lt g e).2 hz1)
      have hsz2 : w.heap.size + 1 ≤ w1.heap.size := by omega
      have HTW := Lib.hid (show Two (w.heap.size + 1) w1.heap.size (w1.heap.size + 1) T 31 32 (w.alloc (.cells #[.int .u16 x, .int .u16 y] 72)) ((w1.alloc (.cells #[.int .u8 T.kind, .string (S T.key), .string (S T.val), .int .u64 T.delta] 31)).alloc (.cells #[.int .u8 T.kind, .string (S T.key), .string (S T.val), .int .u64 T.delta] 32)) (.slice av k ac) (.slice mv k mc) k k (cellsU F) (cellsU F) from
        ⟨(HO1.out.alloc _).alloc _, (HM1.out.alloc _).alloc _, (HB1.out.alloc (by omega) _).alloc (by simp; omega) _, by simp; omega, (FourAt.new _ T _ _ rfl).alloc _, FourAt.new _ T _ _ (by simp), ⟨fun e => by have := HAL.out _ e; omega, fun e => by have := HAL.out _ e; omega⟩, ⟨fun e => by have := HML.out _ e; omega, fun e => by have := HML.out _ e; omega⟩⟩)
      clear HO HM HO1 HM1 HB1
      go_upto_region 7 with (fail)
      go_region_held3 (fun w' => w'.cell? ⟨w1.heap.size, 0, none⟩ = some (.int .u8 T.kind) ∧ w'.cell? ⟨w1.heap.size, 1, none⟩ = some (.string (S T.key)) ∧ w'.cell? ⟨w1.heap.size, 2, none⟩ = some (.string (S T.val)) ∧ w'.cell? ⟨w1.heap.size, 3, none⟩ = some (.int .u64 T.delta) ∧ w'.cell? ⟨w1.heap.size + 1, 0, none⟩ = some (.int .u8 T.kind) ∧ w'.cell? ⟨w1.heap.size + 1, 1, none⟩ = some (.string (S T.key)) ∧ w'.cell? ⟨w1.heap.size + 1, 2, none⟩ = some (.string (S T.val)) ∧ w'.cell? ⟨w1.heap.size + 1, 3, none⟩ = some (.int .u64 T.delta))
        (first | assumption | exact HTW.out.held | exact HTW.out.drew.held | exact (HTW.out.alloc _).drew.held | exact ((HTW.out.alloc _).alloc _).drew.held | exact HTB.out.held | exact HTA.out.held | exact (HTA.out.alloc _).held | go_keep)
        (first
          | (refine step_append_own (by rfl) _ _ 24 (by rfl) (w.heap.size + 1) 31 i0 (.agg #[.int .u8 0, .string ByteArray.empty, .string ByteArray.empty, .int .u64 0]) 4 48 Try.underlying24 hi iz0 iz1 iz2 rfl (by decide) _ k _ (by rfl) ((HTW.out.alloc _).drew).own1 ⟨w1.heap.size + 2, 0, none⟩ 1 1 [.int .u8 T.kind, .string (S T.key), .string (S T.val), .int .u64 T.delta] (by rfl) (by rfl) ((FourAt.new _ T 31 (w1.heap.size + 2) (by simp)).drew).news (four_oneCell _ _ _ _) (by unfold maxLen; omega) (by omega) ((HTW.out.alloc _).drew).le ?_; intro va wa hownA hgrowA hatA; have HTA := Lib.hid (((HTW.out.alloc _).drew).app1 (by decide) hownA hgrowA hatA); clear hownA hgrowA hatA)
          | (refine step_append_own (by rfl) _ _ 24 (by rfl) (w.heap.size + 1) 31 i0 (.agg #[.int .u8 0, .string ByteArray.empty, .string ByteArray.empty, .int .u64 0]) 4 48 Try.underlying24 hi iz0 iz1 iz2 rfl (by decide) _ k _ (by rfl) (((HTW.out.alloc _).alloc _).drew).own1 ⟨w1.heap.size + 2, 0, none⟩ 1 1 [.int .u8 T.kind, .string (S T.key), .string (S T.val), .int .u64 T.delta] (by rfl) (by rfl) (((FourAt.new _ T 31 (w1.heap.size + 2) (by simp)).alloc _).drew).news (four_oneCell _ _ _ _) (by unfold maxLen; omega) (by omega) (((HTW.out.alloc _).alloc _).drew).le ?_; intro va wa hownA hgrowA hatA; have HTA := Lib.hid ((((HTW.out.alloc _).alloc _).drew).app1 (by decide) hownA hgrowA hatA); have HFB := Lib.hid ((((FourAt.new _ T 32 (w1.heap.size + 3) (by simp)).drew).grown hgrowA (fun e => by have := HAL.out _ e; omega))); clear hownA hgrowA hatA)
          | (refine step_append_own (by rfl) _ _ 24 (by rfl) (w.heap.size + 1) 31 i0 (.agg #[.int .u8 0, .string ByteArray.empty, .string ByteArray.empty, .int .u64 0]) 4 48 Try.underlying24 hi iz0 iz1 iz2 rfl (by decide) _ k _ (by rfl) (((HTW.out.alloc _).alloc _).drew).own1 ⟨w1.heap.size + 3, 0, none⟩ 1 1 [.int .u8 T.kind, .string (S T.key), .string (S T.val), .int .u64 T.delta] (by rfl) (by rfl) ((FourAt.new _ T 31 (w1.heap.size + 3) (by simp)).drew).news (four_oneCell _ _ _ _) (by unfold maxLen; omega) (by omega) (((HTW.out.alloc _).alloc _).drew).le ?_; intro va wa hownA hgrowA hatA; have HTA := Lib.hid ((((HTW.out.alloc _).alloc _).drew).app1 (by decide) hownA hgrowA hatA); have HFB := Lib.hid (((((FourAt.new _ T 32 (w1.heap.size + 2) (by simp)).alloc _).drew).grown hgrowA (fun e => by have := HAL.out _ e; omega))); clear hownA hgrowA hatA)
          | (refine step_append_own (by rfl) _ _ 91 (by rfl) (w.heap.size + 1) 32 j0 (.agg #[.int .u8 0, .string ByteArray.empty, .string ByteArray.empty, .int .u64 0]) 4 48 Try.underlying91 hji jz0 jz1 jz2 rfl (by decide) _ k _ (by rfl) (HTA.out.alloc _).own2 ⟨wa.heap.size, 0, none⟩ 1 1 [.int .u8 T.kind, .string (S T.key), .string (S T.val), .int .u64 T.delta] (by rfl) (by rfl) ((FourAt.new _ T 32 wa.heap.size rfl)).news (four_oneCell _ _ _ _) (by unfold maxLen; omega) (by omega) (HTA.out.alloc _).le ?_; intro vb wz hownB hgrowB hatB; have HTB := Lib.hid ((HTA.out.alloc _).app2 (by decide) hownB hgrowB hatB); clear hownB hgrowB hatB)
          | (refine step_append_own (by rfl) _ _ 91 (by rfl) (w.heap.size + 1) 32 j0 (.agg #[.int .u8 0, .string ByteArray.empty, .string ByteArray.empty, .int .u64 0]) 4 48 Try.underlying91 hji jz0 jz1 jz2 rfl (by decide) _ k _ (by rfl) (HTA.out).own2 ⟨w1.heap.size + 3, 0, none⟩ 1 1 [.int .u8 T.kind, .string (S T.key), .string (S T.val), .int .u64 T.delta] (by rfl) (by rfl) (HFB.out).news (four_oneCell _ _ _ _) (by unfold maxLen; omega) (by omega) (HTA.out).le ?_; intro vb wz hownB hgrowB hatB; have HTB := Lib.hid ((HTA.out).app2 (by decide) hownB hgrowB hatB); clear hownB hgrowB hatB)
          | (refine step_append_own (by rfl) _ _ 91 (by rfl) (w.heap.size + 1) 32 j0 (.agg #[.int .u8 0, .string ByteArray.empty, .string ByteArray.empty, .int .u64 0]) 4 48 Try.underlying91 hji jz0 jz1 jz2 rfl (by decide) _ k _ (by rfl) (HTA.out).own2 ⟨w1.heap.size + 2, 0, none⟩ 1 1 [.int .u8 T.kind, .string (S T.key), .string (S T.val), .int .u64 T.delta] (by rfl) (by rfl) (HFB.out).news (four_oneCell _ _ _ _) (by unfold maxLen; omega) (by omega) (HTA.out).le ?_; intro vb wz hownB hgrowB hatB; have HTB := Lib.hid ((HTA.out).app2 (by decide) hownB hgrowB hatB); clear hownB hgrowB hatB))
      all_goals
        have hone := HTB.out.own1
        have htwo := HTB.out.own2
        have hbel := HTB.out.below
        go_wp2_with fail
        go_roundw
        (case rel => exact (⟨k + 1, F ++ [T], by go_num, by omega, by rw [List.length_append, HF.out]; rfl, Lib.hid (tamed_snoc hsm.out HT.out), by rw [cellsU_snoc]; exact hone, by rw [cellsU_snoc]; exact htwo, hbel⟩))
        (case measure => first | (simp [intOf]; done) | (simp [intOf]; omega))
    · obtain rfl : k = m := by omega
      have c0 : wr.cell? ⟨w.heap.size, 0, none⟩ = some (.int .u16 x) := (hB.cell (p := ⟨w.heap.size, 0, none⟩) (Nat.lt_succ_self _)).trans (by simp)
      have c1 : wr.cell? ⟨w.heap.size, 1, none⟩ = some (.int .u16 y) := (hB.cell (p := ⟨w.heap.size, 1, none⟩) (Nat.lt_succ_self _)).trans (by simp)
      have HSE := Lib.hid (SlU.of_row hown).2
      have HX' := Lib.hid (SlU.of_row hownm).2
      have HB := Lib.hid hBw
      have hF8 : F.length ≤ 8 := by omega
      clear hown hownm hxs hB hsize hwf hBw hF hcut
      go_wp2_with fail
      refine (thread (bufOf_any av k ac F wr HF.out.symm (by omega) HSE.out) wr.heap.size wr (Below.refl _ _) (Nat.le_refl _)).mono ?_
      rintro e w1 ⟨hof, hX1, hk1, -, -, hz1⟩
      obtain ⟨a1, n1, c1', eno, rfl, hofc⟩ := BfRes.any hof
      have d0 := (hk1 w.heap.size 0 (by omega)).trans c0
      have d1 := (hk1 w.heap.size 1 (by omega)).trans c1
      have HX1 := Lib.hid (HX'.out.kept hX1 (Nat.le_refl _))
      have HOF := Lib.hid hofc
      have HB1 := Lib.hid (HB.out.trans (hX1.mono (by omega)))
      have hsz2 : w.heap.size + 1 ≤ w1.heap.size := by omega
      clear HX' HSE HO HM hof hofc hk1 c0 c1 hX1 HB hsz1 hz1
      go_upto_region 10 with (fail)
      go_cut [80] (fun s wx => s = .bool false ∧ Below w1.heap.size w1 wx)
      case first =>
        have hrr := fun W h => refRising_any mv mc F W (by omega) h
        rw [HF.out] at hrr
        have HRR := Lib.hid hrr
        clear hrr d0 d1
        cases hrb : risingB F with
        | true =>
          rw [hrb] at HRR HOF
          have hri := Lib.hid ((risingB_iff F).1 hrb)
          have hoc := HOF.out
          unfold OfD at hoc
          rcases hoc with ⟨-, rfl, hn1, hbx⟩ | ⟨h, -⟩
          · have HN1 := Lib.hid hn1
            have hn2 : n1 = k := hn1.trans HF.out
            subst hn2
            have HBX := Lib.hid hbx
            clear hn1 hbx hrb HOF
            go_wp2_with fail
            refine (thread (HRR.out _ (SlU.at' (HX1.out.kept (by go_grown) (Nat.le_refl _)))) w1.heap.size w1 (by go_grown) (by go_grown)).mono ?_
            rintro e w2 ⟨rfl, hX2, hk2, -, -, hz2⟩
            have b0 : w2.cell? ⟨w1.heap.size, 0, none⟩ = some (.slice a1 n1 c1') := (hk2 w1.heap.size 0 (by simp)).trans (by simp)
            clear hk2
            go_wp2_with fail
            refine (thread (sameU_any a1 n1 c1' mv mc F _ HN1.out (HBX.out.kept hX2 (Nat.le_refl _)) (HX1.out.kept hX2 (Nat.le_refl _)) (by omega) hri.out) w1.heap.size w1 hX2 hz2).mono ?_
            rintro e w3 ⟨rfl, hX3, -, -, -, hz3⟩
            go_wp2_with fail
            go_meet
            exact ⟨rfl, hX3⟩
          · exact absurd h (by simp)
        | false =>
          rw [hrb] at HRR HOF
          have hoc := HOF.out
          unfold OfD at hoc
          rcases hoc with ⟨h, -⟩ | ⟨-, rfl, hn1⟩
          · exact absurd h (by simp)
          · clear hrb HOF
            subst hn1
            go_wp2_with fail
            refine (thread (HRR.out _ (SlU.at' (HX1.out.kept (by go_grown) (Nat.le_refl _)))) w1.heap.size w1 (by go_grown) (by go_grown)).mono ?_
            rintro e w2 ⟨rfl, hX2, hk2, -, -, hz2⟩
            have b0 : w2.cell? ⟨w1.heap.size, 0, none⟩ = some (.slice a1 0 c1') := (hk2 w1.heap.size 0 (by simp)).trans (by simp)
            clear hk2
            go_wp2_with fail
            refine (thread (lenU_next a1 0 c1' _) w1.heap.size w1 hX2 hz2).mono ?_
            rintro e w3 ⟨rfl, hX3, -, -, -, hz3⟩
            go_wp2_with fail
            go_meet
            exact ⟨rfl, hX3⟩
      case rest =>
        obtain ⟨rfl, hX2⟩ := hcut
        have d0 := (hX2.cell (p := ⟨w.heap.size, 0, none⟩) (by show w.heap.size < w1.heap.size; omega)).trans d0
        have d1 := (hX2.cell (p := ⟨w.heap.size, 1, none⟩) (by show w.heap.size < w1.heap.size; omega)).trans d1
        have HX2 := Lib.hid (HX1.out.kept hX2 (Nat.le_refl _))
        have HB2 := Lib.hid (HB1.out.trans (hX2.mono (by omega)))
        have hsz3 : w.heap.size + 1 ≤ wc.heap.size := Nat.le_trans hsz2 hX2.size
        clear HX1 HOF hX2 HB1
        have htx := fun W h => refText_any mv mc F W (by omega) (fun u hu => (hsm.out u hu).1) h
        rw [HF.out] at htx
        have HTX := Lib.hid htx
        have hTl := textAcc_34 F [] hsm.out
        generalize textAcc [] F = TA at *
        obtain ⟨T, te⟩ := TA
        dsimp only [List.length_nil] at hTl HTX
        have hT : T.length ≤ 3216 := by omega
        clear htx hTl
        go_wp2_with fail
        refine (thread (HTX.out wc (SlU.at' HX2.out)) wc.heap.size wc (Below.refl _ _) (Nat.le_refl _)).mono ?_
        rintro e w2 ⟨rfl, hX3, hk3, -, -, hz3⟩
        have d0 := (hk3 w.heap.size 0 (by omega)).trans d0
        have d1 := (hk3 w.heap.size 1 (by omega)).trans d1
        have HB3 := Lib.hid (HB2.out.trans (hX3.mono (by omega)))
        have hsz4 : w.heap.size + 1 ≤ w2.heap.size := by omega
        have HB3' := Lib.hid HB3.out
        clear hk3 hX3 HTX HX2 HB2 hsm
        obtain ⟨wb, hwb⟩ : ∃ wb, wb = w2 := ⟨_, rfl⟩
        subst hwb
        have d0b := d0
        go_upto_region 13 with (fail)
        go_cut [17] (fun s wx => ∃ c2, s = .slice (some ⟨wb.heap.size, 0, none⟩) (T.length + 1) c2 ∧ BytesI wx wb.heap.size (asI (T ++ [120])) ∧ Below wb.heap.size wb wx)
        case first =>
          have hsx : S T ++ (⟨#[120]⟩ : ByteArray) = S (T ++ [120]) := by rw [show (⟨#[120]⟩ : ByteArray) = S [120] from rfl, S_append]
          have hcv := fun W => Lib.run_convert_string_bytes (P := Try.prog) W 9 47 5 (S (T ++ [120])) (u := .string) Try.underlying9 Try.underlying47 Try.underlying5
          go_wp2_with fail
          go_meet
          exact ⟨grownCap wb (T.length + 1) 0 5, by simp, BytesI.new _ _ _, Joins.below_bytesWorld _ _ _ _ (Nat.le_refl _)⟩
        case rest =>
          obtain ⟨c2, rfl, hby, hX4⟩ := hcut
          have d0 := (hX4.cell (p := ⟨w.heap.size, 0, none⟩) (by show w.heap.size < wb.heap.size; omega)).trans d0
          have d1 := (hX4.cell (p := ⟨w.heap.size, 1, none⟩) (by show w.heap.size < wb.heap.size; omega)).trans d1
          have HB4 := Lib.hid (HB3.out.trans (hX4.mono (by omega)))
          have hsz5 : wb.heap.size < wc.heap.size := hby.lt
          have hy0 := hby.cell (x % (T.length + 1)) (by rw [asI_len]; simp; exact Nat.mod_lt _ (Nat.succ_pos _))
          have hy1 := hby.free (x % (T.length + 1)) (by rw [asI_len]; simp; exact Nat.mod_lt _ (Nat.succ_pos _))
          generalize (asI (T ++ [120]))[x % (T.length + 1)]'(by rw [asI_len]; simp; exact Nat.mod_lt _ (Nat.succ_pos _)) = z at hy0
          have hk : x % (T.length + 1) < T.length + 1 := Nat.mod_lt _ (Nat.succ_pos _)
          have hki : (x : Int) % ((T.length : Int) + 1) = ((x % (T.length + 1) : Nat) : Int) := by simp
          generalize x % (T.length + 1) = k2 at *
          clear hsz2 hsz3 HB3
          have HD0 := Lib.hid d0b
          have HBY := Lib.hid hby
          have hX5 := Lib.hid hX4
          have hTx : (asI (T ++ [120])).length = T.length + 1 := by rw [asI_len]; simp
          have HTx := Lib.hid hTx
          clear hby hX4 hTx
          go_upto_region 14 with (fail)
          go_cut [17] (fun s wx => s = .slice (some ⟨wb.heap.size, 0, none⟩) (T.length + 1) c2 ∧ ∃ ys : List Int, ys.length = T.length + 1 ∧ BytesI wx wb.heap.size ys ∧ Below wb.heap.size wb wx)
          case first =>
            go_region
            all_goals
              go_wp2_with fail
              go_meet
              exact ⟨rfl, (asI (T ++ [120])).set k2 _, by rw [List.length_set, HTx.out], (HBY.out.set k2 _).drew, below_drew' (hX5.out.setCell (p := ⟨wb.heap.size, k2, none⟩) (Nat.le_refl _) _)⟩
          case rest =>
            obtain ⟨rfl, ys, hys, hby, hX4⟩ := hcut
            have d0 := (hX4.cell (p := ⟨w.heap.size, 0, none⟩) (by show w.heap.size < wb.heap.size; omega)).trans HD0.out
            have hm2 : tmin (raw.length : Int) 200 = ((min raw.length 200 : Nat) : Int) := tmin_nat _ 200
            have hma : min raw.length 200 ≤ raw.length := Nat.min_le_left _ _
            have hmb : min raw.length 200 ≤ 200 := Nat.min_le_right _ _
            generalize min raw.length 200 = m2 at *
            have hs1 := fun W => take_str raw m2 hma W
            have hs2 := fun W => take_str T k2 (by omega) W
            have hc3 := BytesI.str (P := Try.prog) 47 9 5 Try.underlying47 Try.underlying5 Try.underlying9 hby (T.length + 1) c2 hys
            have hc4 := BytesI.str (P := Try.prog) 47 9 5 Try.underlying47 Try.underlying5 Try.underlying9 hby.drew (T.length + 1) c2 hys
            have hysl : (ys.map fun x => UInt8.ofNat x.toNat).length = T.length + 1 := by rw [List.length_map, hys]
            have hrl : (raw.take m2).length ≤ 200 := by rw [List.length_take]; omega
            have htl : (T.take k2).length ≤ 3216 := by rw [List.length_take]; omega
            generalize (ys.map fun x => UInt8.ofNat x.toNat) = Y at *
            generalize raw.take m2 = R at *
            generalize T.take k2 = T2 at *
            have HYL := Lib.hid hysl
            have hX6 := Lib.hid hX4
            have hsz6 : wb.heap.size < wc.heap.size := hby.lt
            clear hby hysl hX5 HBY HTx hys hX4
            obtain ⟨wy, hwy⟩ : ∃ wy, wy = wc := ⟨_, rfl⟩
            subst hwy
            go_upto_region 15 with (fail)
            go_cut [120, 121, 122] (fun s s1 s2 wx => s = .slice (some ⟨wy.heap.size, 0, none⟩) 4 4 ∧ s1 = .int .i64 4 ∧ s2 = .int .i64 0 ∧ SlAt (fun t : List UInt8 => [Value.string (S t)]) 1 wx (some ⟨wy.heap.size, 0, none⟩) [R, T, Y, T2] ∧ Below wy.heap.size wy wx)
            case first =>
              go_big_region
              all_goals
                go_wp2_with fail
                go_meet
                exact ⟨rfl, rfl, rfl, SlAt.kept (SlAt.new wy _ _ (0, 0) [R, T, Y, T2] (by simp) (by simp)) (below_drew' (Below.refl _ _)) (Nat.le_refl _), below_drew' ((Below.refl _ _).alloc (Nat.le_refl _) _)⟩
            case rest =>
              obtain ⟨rfl, rfl, rfl, hst, hX7⟩ := hcut
              have hBw := HB3'.out.trans ((hX6.out.trans (hX7.mono (by omega))).mono (by omega))
              have HB5 := Lib.hid hBw
              have hlen4 : ∀ j (h : j < [R, T, Y, T2].length), ([R, T, Y, T2][j]).length ≤ 4000 := fun j h => by
                have h1 := HYL.out
                match j, h with
                | 0, _ => show R.length ≤ 4000; omega
                | 1, _ => show T.length ≤ 4000; omega
                | 2, _ => show Y.length ≤ 4000; omega
                | 3, _ => show T2.length ≤ 4000; omega
              have HL4 := Lib.hid hlen4
              have hts : [R, T, Y, T2].length = 4 := rfl
              have HST := Lib.hid hst
              clear hst hX7 hlen4 d0 hs1 hs2 hc3 hc4 hki hm2 hmin
              generalize [R, T, Y, T2] = ts at *
              have HTS := Lib.hid hts
              clear hts HB3' hX6
              go_wp2_with fail
              go_loopw [122] (fun i wr => ∃ j : Nat, i = .int .i64 j ∧ j ≤ 4 ∧ Below wc.heap.size wc wr) (fun i _ => 4 - (intOf i).toNat)
              case atStart => exact ⟨0, rfl, Nat.zero_le _, Below.refl _ _⟩
              case round =>
                obtain ⟨j, rfl, hj, hBr⟩ := hrel
                have hj0 : (0 : Int) ≤ (j : Int) := Int.natCast_nonneg _
                by_cases hj4 : j < 4
                · have hj1 : (j : Int) < 4 := by omega
                  have hjt : j < ts.length := by rw [HTS.out]; exact hj4
                  obtain ⟨b, off, e, hb, hcell⟩ := (HST.out.kept hBr (Nat.le_refl _)).at (by rw [HTS.out]; omega)
                  simp only [Option.some.injEq, Addr.mk.injEq] at e
                  obtain ⟨rfl, rfl, -⟩ := e
                  have t0 := hcell j hjt 0 _ rfl
                  rw [Nat.zero_add, Nat.mul_one, Nat.add_zero] at t0
                  have hlj := HL4.out j hjt
                  clear hcell
                  generalize ts[j] = t at *
                  have hPr := parseU_rising t
                  have hPl := (parseU_all t).1
                  have hfp := fun W => bufParse_any t (by omega) W
                  have hrp := fun W => refBufParse_any t (by omega) W
                  generalize parseU t = P at *
                  have HPR := Lib.hid hPr
                  have HFP := Lib.hid hfp
                  have HRP := Lib.hid hrp
                  clear hPr hfp hrp
                  go_wp2_with fail
                  refine (thread (HFP.out _) wr.heap.size wr (Below.refl _ _) (Nat.le_refl _)).mono ?_
                  rintro e w3 ⟨⟨a3, c3, rfl, ho3⟩, hX8, -, -, -, hz8⟩
                  have HO3 := Lib.hid (BoxU.of_own ho3)
                  clear ho3
                  go_wp2_with fail
                  refine (thread (HRP.out _) w3.heap.size w3 (by go_grown) (by go_grown)).mono ?_
                  rintro e w4 ⟨⟨a4, c4, rfl, ho4⟩, hX9, hk9, -, -, hz9⟩
                  have e0 : w4.cell? ⟨w3.heap.size, 0, none⟩ = some (.slice a3 P.1.length c3) := (hk9 w3.heap.size 0 (by simp)).trans (by simp)
                  have HO4 := Lib.hid (SlU.of_row ho4).2
                  have HO3' := Lib.hid (HO3.out.kept hX9 (Nat.le_refl _))
                  have hB9 := hBr.trans ((hX8.trans (hX9.mono hz8)).mono hBr.size)
                  clear ho4 hk9 hX8 hX9 HFP HRP t0
                  go_wp2_with fail
                  refine (thread (sameU_any a3 P.1.length c3 a4 c4 P.1 w4 rfl HO3'.out HO4.out (by omega) HPR.out) w4.heap.size w4 (by go_grown) (by go_grown)).mono ?_
                  rintro e w5 ⟨rfl, hX10, -, -, -, hz10⟩
                  have hB10 := hB9.trans (hX10.mono hB9.size)
                  go_wp2_with fail
                  go_roundw
                  (case rel => exact (⟨j + 1, by go_num, by omega, hB10⟩))
                  (case measure => first | (simp [intOf]; done) | (simp [intOf]; omega))
                · obtain rfl : j = 4 := by omega
                  have hBe := HB5.out.trans (hBr.mono HB5.out.size)
                  go_wp2_with fail
                  refine (thread (wakes_any _) wr.heap.size wr (Below.refl _ _) (Nat.le_refl _)).mono ?_
                  rintro e w3 ⟨rfl, hX8, -, -, -, hz8⟩
                  go_wp2_with fail
                  go_ret
                  exact ⟨rfl, hBe.trans (hX8.mono hBe.size)⟩

end Go.Proofs.Ytcjeonamebnpfaa
