/-
  The walk of LeafParses.
-/
import Derived.Test.YtcjeonamebnpfaaPrsF
import Derived.Test.YtcjeonamebnpfaaRef16T
import Derived.Test.YtcjeonamebnpfaaOpenE
import Derived.Test.YtcjeonamebnpfaaSameE
import Derived.Test.YtcjeonamebnpfaaWakeE
import Derived.Test.YtcjeonamebnpfaaBytI
import Derived.BigRegion
import Derived.Deep.DeepCutAuto
namespace Go.Proofs.Ytcjeonamebnpfaa
open Go.RowKit
attribute [local go_sem ↓] Go.wp_at_zero Go.wp_at_succ

theorem small_snoc {l : List Ent} {u : Ent} {P : Ent → Prop} (h : ∀ x ∈ l, P x) (hu : P u) : ∀ x ∈ l ++ [u], P x := fun x hx => by
  rcases List.mem_append.1 hx with h1 | h1
  · exact h x h1
  · rw [List.mem_singleton] at h1; rw [h1]; exact hu
/-- What came of leaf.Of, right or not. -/
def OfC (w' : World) (l : List Ent) (rb : Bool) (a : Option Addr) (n c : Nat) (eno : Int) : Prop :=
  (rb = true ∧ eno = 0 ∧ n = l.length ∧ BoxE w' (.agg #[.slice a n c]) l) ∨ (rb = false ∧ eno = 2 ∧ n = 0)
theorem OfRes.any {B : Nat} {l : List Ent} {rb : Bool} {e : Ending} {w' : World} (h : OfRes B l rb e w') : ∃ a n c eno, e = .returned (.tuple #[.agg #[.slice a n c], .int .i64 eno]) ∧ OfC w' l rb a n c eno := by
  cases rb with
  | true =>
    obtain ⟨a, c, he, ho⟩ := h
    exact ⟨a, _, c, 0, he, Or.inl ⟨rfl, rfl, rfl, BoxE.of_own ho⟩⟩
  | false => exact ⟨none, 0, 0, 2, h, Or.inr ⟨rfl, rfl, rfl⟩⟩
theorem entText_402 : ∀ l : List Ent, (∀ u ∈ l, u.key.length ≤ 200 ∧ u.val.length ≤ 200) → (entText l).length ≤ 402 * l.length
  | [], _ => by simp [entText]
  | u :: l, h => by
    have h1 := entText_402 l (fun x hx => h x (List.mem_cons_of_mem _ hx))
    have h2 := h u (List.mem_cons_self ..)
    have h3 : (entText (u :: l)).length = u.bytes.length + (entText l).length := by simp [entText]
    have h4 : u.bytes.length = 1 + u.key.length + 1 + u.val.length := by simp [Ent.bytes]; omega
    rw [h3, List.length_cons]; omega
theorem elemR : Try.prog.elem 70 = 73 := by kernel_rfl
theorem underR : Try.prog.underlying 70 = some (.slice (Try.prog.elem 70)) := by rw [elemR]; exact Try.underlying70
theorem sizeElemR (w : World) : (sizeOf (Try.prog.elem 70)).run Try.prog w = .ok 2 w := by kernel_rfl
theorem cut_itemsR (ao : Option Addr) (n c i : Nat) (hin : i ≤ n) (hnc : n ≤ c) (w : World) : (Instr.slice 70 (.slice ao n c) none (some (.int .i64 (i : Int))) none).run Try.prog w = .ok (.slice ao i c) w := by
  rw [run_slice_h w 70 ao n c underR .i64 i (by omega) (by omega)]
  rw [sizeElemR]
  have e : ao.map (·.add 0) = ao := by cases ao <;> simp [Addr.add]
  simp [Result.andThen, sliced, e]

set_option maxRecDepth 100000 in
set_option maxHeartbeats 8000000 in
theorem leafParses_walk (v : Value) (l : List Ent) (raw : List UInt8) (x y : Nat) (w : World) (hl : ArgEnts w v l) (hx : x < 65536) :
    Calls Try.prog 7 #[v, .string (S raw), .agg #[.int .u16 x, .int .u16 y]] w fun e w' => e = .returned (.bool true) ∧ Below w.heap.size w w' := by
  obtain ⟨i0, hi, iz0, iz1, iz2⟩ := info_parts infoE
  have hmin := fun ts t a b w => run_tmin (P := Try.prog) ts t a b w
  have hm : tmin (l.length : Int) 8 = ((min l.length 8 : Nat) : Int) := tmin_nat _ 8
  obtain ⟨hform, hsize⟩ := hl
  obtain ⟨ao, c, rfl, hxs, hc1, hc2, hn⟩ := hform
  generalize hM : min l.length 8 = m at *
  have hmx : m ≤ l.length := by omega
  have hm8 : m ≤ 8 := by omega
  have hcut := fun W => cut_itemsR ao l.length c m hmx hc1 W
  have HN := Lib.hid hn
  have HC2 := Lib.hid hc2
  clear hn hc2
  go_enter Try.func7, Try.ntmps7
  go_wp2_with fail
  go_loopw [27, 7] (fun i av wr => ∃ k : Nat, i = .int .i64 k ∧ k ≤ m ∧ Hid (∀ u ∈ l.take k, u.key.length ≤ 200 ∧ u.val.length ≤ 200) ∧ wr.ownsRow (w.heap.size + 1) 54 2 av k (cellsE (l.take k)) ∧ Below (w.heap.size + 1) (w.alloc (.cells #[.int .u16 x, .int .u16 y] 72)) wr) (fun i _ _ => m - (intOf i).toNat)
  case atStart => exact ⟨0, rfl, Nat.zero_le _, Lib.hid (fun u hu => by simp at hu), World.ownsRow_nil _ _ _ _, Below.refl _ _⟩
  case round =>
    obtain ⟨k, rfl, hk, hsm, hown, hB⟩ := hrel
    have hk0 : (0 : Int) ≤ (k : Int) := Int.natCast_nonneg _
    have hsz1 : w.heap.size + 1 ≤ wr.heap.size := by have := hB.size; simpa using this
    have hBw : Below w.heap.size w wr := (Below.alloc (Below.refl _ w) (Nat.le_refl _) (.cells #[.int .u16 x, .int .u16 y] 72)).trans (hB.mono (Nat.le_succ _))
    obtain ⟨av, ac, ea⟩ := own_form hown
    subst ea
    have HO := Lib.hid hown
    by_cases hkm : k < m
    · have hk1 : (k : Int) < (m : Int) := by omega
      have hkl : k < l.length := by omega
      obtain ⟨b, off, rfl, hb, t0, t1⟩ := SlAt.cells2 hxs k hkl
      have q0 := (cell_below hBw hb _).trans t0
      have q1 := (cell_below hBw hb _).trans t1
      have hsn := Lib.hid (show l.take (k + 1) = l.take k ++ [l[k]] from List.take_succ_eq_append_getElem hkl)
      clear t0 t1 hown
      generalize l[k] = u at *
      by_cases hbig : 200 < u.key.length
      · have hbig' : (200 : Int) < (u.key.length : Int) := by omega
        go_wp2_with fail
        refine (thread (wakesE_any _) w.heap.size w (by go_grown) (by go_grown)).mono ?_
        rintro e w1 ⟨rfl, hB1, -⟩
        go_wp2_with fail
        go_ret
        exact ⟨rfl, hB1⟩
      · have hbig' : ¬ (200 : Int) < (u.key.length : Int) := by omega
        by_cases hbiv : 200 < u.val.length
        · have hbiv' : (200 : Int) < (u.val.length : Int) := by omega
          go_wp2_with fail
          refine (thread (wakesE_any _) w.heap.size w (by go_grown) (by go_grown)).mono ?_
          rintro e w1 ⟨rfl, hB1, -⟩
          go_wp2_with fail
          go_ret
          exact ⟨rfl, hB1⟩
        · have hbiv' : ¬ (200 : Int) < (u.val.length : Int) := by omega
          go_wp2_with (at_builtin; go_must (refine wpList_append_own_at _ rfl _ _ 43 rfl (w.heap.size + 1) 54 i0 (.agg #[.string ByteArray.empty, .string ByteArray.empty]) 2 32 Try.underlying43 hi iz0 iz1 iz2 rfl (by decide) _ k _ rfl ((HO.out.alloc _).alloc _) ⟨wr.heap.size + 1, 0, none⟩ 1 1 [.string (S u.key), .string (S u.val)] rfl rfl (cell_two_at _ _ (by simp) _ _ _) (by simp [Value.oneCell']) (by unfold maxLen; omega) (by omega) (by simp; omega) ?_; intro vz wz hownz hgrowz _ _))
          go_roundw
          (case rel => exact (⟨k + 1, by go_num, by omega, Lib.hid (by rw [hsn.out]; exact small_snoc (P := fun u => u.key.length ≤ 200 ∧ u.val.length ≤ 200) hsm.out ⟨by omega, by omega⟩), by rw [hsn.out, cellsE_append, cellsE_one]; exact hownz, below_grown ((hB.alloc hsz1 _).alloc (by simp; omega) _) hgrowz (fun k e => (HO.out.lt k e).1) (by simp; omega)⟩))
          (case measure => first | (simp [intOf]; done) | (simp [intOf]; omega))
    · obtain rfl : k = m := by omega
      have hLn : (l.take k).length = k := by rw [List.length_take]; omega
      have hxk := (hxs.cut k).kept hBw (Nat.le_refl _)
      have c0 : wr.cell? ⟨w.heap.size, 0, none⟩ = some (.int .u16 x) := (hB.cell (p := ⟨w.heap.size, 0, none⟩) (Nat.lt_succ_self _)).trans (by simp)
      have c1 : wr.cell? ⟨w.heap.size, 1, none⟩ = some (.int .u16 y) := (hB.cell (p := ⟨w.heap.size, 1, none⟩) (Nat.lt_succ_self _)).trans (by simp)
      have hxk' : SlE wr (.slice ao k c) (l.take k) := ⟨ao, c, by rw [hLn], hxk, by rw [hLn]; omega, HC2.out, HN.out⟩
      generalize l.take k = L at *
      have HX := Lib.hid hxk
      have HX' := Lib.hid hxk'
      have HSE := Lib.hid (SlE.of_own hown).2
      have HB := Lib.hid hBw
      have HLn := Lib.hid hLn
      clear hxk hown hxs hB hxk' hsize hBw hLn
      have hL8 : L.length ≤ 8 := by have := HLn.out; omega
      go_wp2_with fail
      refine (thread (leafOf_any av k ac L wr HLn.out.symm (by omega) HSE.out) wr.heap.size wr (Below.refl _ _) (Nat.le_refl _)).mono ?_
      rintro e w1 ⟨hof, hX1, hk1, -, -, hz1⟩
      obtain ⟨a1, n1, c1', eno, rfl, hofc⟩ := OfRes.any hof
      have d0 := (hk1 w.heap.size 0 (by omega)).trans c0
      have d1 := (hk1 w.heap.size 1 (by omega)).trans c1
      have HX1 := Lib.hid (HX.out.kept hX1 (Nat.le_refl _))
      have HX1' := Lib.hid (HX'.out.kept hX1 (Nat.le_refl _))
      have HOF := Lib.hid hofc
      have HB1 := Lib.hid (HB.out.trans (hX1.mono (by omega)))
      have hsz2 : w.heap.size + 1 ≤ w1.heap.size := by omega
      clear HX HX' HSE HO hof hofc hk1 c0 c1 hX1 HB hsz1 hz1
      go_upto_region 11 with (fail)
      go_cut [79] (fun s wx => s = .bool false ∧ Below w1.heap.size w1 wx)
      case first =>
        have hrr := fun W h => refRight_any ao c L _ (rightB_iff L) W (by omega) h
        rw [HLn.out] at hrr
        have HRR := Lib.hid hrr
        clear hrr d0 d1
        cases hrb : rightB L with
        | true =>
          rw [hrb] at HRR HOF
          have hri := Lib.hid ((rightB_iff L).1 hrb)
          have hoc := HOF.out
          unfold OfC at hoc
          rcases hoc with ⟨-, rfl, hn1, hbx⟩ | ⟨h, -⟩
          · have HN1 := Lib.hid hn1
            have hn2 : n1 = k := hn1.trans HLn.out
            subst hn2
            have HBX := Lib.hid hbx
            clear hn1 hbx hrb HOF
            go_wp2_with fail
            refine (thread (HRR.out _ (HX1.out.kept (by go_grown) (Nat.le_refl _))) w1.heap.size w1 (by go_grown) (by go_grown)).mono ?_
            rintro e w2 ⟨rfl, hX2, hk2, -, -, hz2⟩
            have b0 : w2.cell? ⟨w1.heap.size, 0, none⟩ = some (.slice a1 n1 c1') := (hk2 w1.heap.size 0 (by simp)).trans (by simp)
            clear hk2
            go_wp2_with fail
            refine (thread (sameE_any a1 n1 c1' ao c L _ HN1.out (HBX.out.kept hX2 (Nat.le_refl _)) (HX1'.out.kept hX2 (Nat.le_refl _)) (by omega) hri.out.2) w1.heap.size w1 hX2 hz2).mono ?_
            rintro e w3 ⟨rfl, hX3, -, -, -, hz3⟩
            go_wp2_with fail
            go_meet
            exact ⟨rfl, hX3⟩
          · exact absurd h (by simp)
        | false =>
          rw [hrb] at HRR HOF
          have hoc := HOF.out
          unfold OfC at hoc
          rcases hoc with ⟨h, -⟩ | ⟨-, rfl, hn1⟩
          · exact absurd h (by simp)
          · clear hrb HOF
            subst hn1
            go_wp2_with fail
            refine (thread (HRR.out _ (HX1.out.kept (by go_grown) (Nat.le_refl _))) w1.heap.size w1 (by go_grown) (by go_grown)).mono ?_
            rintro e w2 ⟨rfl, hX2, hk2, -, -, hz2⟩
            have b0 : w2.cell? ⟨w1.heap.size, 0, none⟩ = some (.slice a1 0 c1') := (hk2 w1.heap.size 0 (by simp)).trans (by simp)
            clear hk2
            go_wp2_with fail
            refine (thread (lenE_next a1 0 c1' _) w1.heap.size w1 hX2 hz2).mono ?_
            rintro e w3 ⟨rfl, hX3, -, -, -, hz3⟩
            go_wp2_with fail
            go_meet
            exact ⟨rfl, hX3⟩
      case rest =>
        obtain ⟨rfl, hX2⟩ := hcut
        have d0 := (hX2.cell (p := ⟨w.heap.size, 0, none⟩) (by show w.heap.size < w1.heap.size; omega)).trans d0
        have d1 := (hX2.cell (p := ⟨w.heap.size, 1, none⟩) (by show w.heap.size < w1.heap.size; omega)).trans d1
        have HX2 := Lib.hid (HX1.out.kept hX2 (Nat.le_refl _))
        have HB2 := Lib.hid (HB1.out.trans (hX2.mono (by omega)))
        have hsz3 : w.heap.size + 1 ≤ wc.heap.size := Nat.le_trans hsz2 hX2.size
        clear HX1 HX1' HOF hX2 HB1
        have htx := fun W h => refEntText_any ao c L W (by omega) (fun u hu => by have := hsm.out u hu; omega) h
        rw [HLn.out] at htx
        have HTX := Lib.hid htx
        have hTl := entText_402 L hsm.out
        generalize entText L = T at *
        have hT : T.length ≤ 3216 := by omega
        clear htx hTl
        go_wp2_with fail
        refine (thread (HTX.out wc HX2.out) wc.heap.size wc (Below.refl _ _) (Nat.le_refl _)).mono ?_
        rintro e w2 ⟨rfl, hX3, hk3, -, -, hz3⟩
        have d0 := (hk3 w.heap.size 0 (by omega)).trans d0
        have d1 := (hk3 w.heap.size 1 (by omega)).trans d1
        have HB3 := Lib.hid (HB2.out.trans (hX3.mono (by omega)))
        have hsz4 : w.heap.size + 1 ≤ w2.heap.size := by omega
        have HB3' := Lib.hid HB3.out
        clear hk3 hX3 HTX HX2 HB2 hsm
        obtain ⟨wb, hwb⟩ : ∃ wb, wb = w2 := ⟨_, rfl⟩
        subst hwb
        have d0b := d0
        go_upto_region 14 with (fail)
        go_cut [13] (fun s wx => ∃ c2, s = .slice (some ⟨wb.heap.size, 0, none⟩) (T.length + 1) c2 ∧ BytesI wx wb.heap.size (asI (T ++ [120])) ∧ Below wb.heap.size wb wx)
        case first =>
          have hsx : S T ++ (⟨#[120]⟩ : ByteArray) = S (T ++ [120]) := by rw [show (⟨#[120]⟩ : ByteArray) = S [120] from rfl, S_append]
          have hcv := fun W => Lib.run_convert_string_bytes (P := Try.prog) W 9 47 5 (S (T ++ [120])) (u := .string) Try.underlying9 Try.underlying47 Try.underlying5
          go_wp2_with fail
          go_meet
          exact ⟨grownCap wb (T.length + 1) 0 5, by simp, BytesI.new _ _ _, Joins.below_bytesWorld _ _ _ _ (Nat.le_refl _)⟩
        case rest =>
          obtain ⟨c2, rfl, hby, hX4⟩ := hcut
          have d0 := (hX4.cell (p := ⟨w.heap.size, 0, none⟩) (by show w.heap.size < wb.heap.size; omega)).trans d0
          have d1 := (hX4.cell (p := ⟨w.heap.size, 1, none⟩) (by show w.heap.size < wb.heap.size; omega)).trans d1
          have HB4 := Lib.hid (HB3.out.trans (hX4.mono (by omega)))
          have hsz5 : wb.heap.size < wc.heap.size := hby.lt
          have hy0 := hby.cell (x % (T.length + 1)) (by rw [asI_len]; simp; exact Nat.mod_lt _ (Nat.succ_pos _))
          have hy1 := hby.free (x % (T.length + 1)) (by rw [asI_len]; simp; exact Nat.mod_lt _ (Nat.succ_pos _))
          generalize (asI (T ++ [120]))[x % (T.length + 1)]'(by rw [asI_len]; simp; exact Nat.mod_lt _ (Nat.succ_pos _)) = z at hy0
          have hk : x % (T.length + 1) < T.length + 1 := Nat.mod_lt _ (Nat.succ_pos _)
          have hki : (x : Int) % ((T.length : Int) + 1) = ((x % (T.length + 1) : Nat) : Int) := by simp
          generalize x % (T.length + 1) = k2 at *
          clear hsz2 hsz3 HB3
          have HD0 := Lib.hid d0b
          have HBY := Lib.hid hby
          have hX5 := Lib.hid hX4
          have hTx : (asI (T ++ [120])).length = T.length + 1 := by rw [asI_len]; simp
          have HTx := Lib.hid hTx
          clear hby hX4 hTx
          go_upto_region 15 with (fail)
          go_cut [13] (fun s wx => s = .slice (some ⟨wb.heap.size, 0, none⟩) (T.length + 1) c2 ∧ ∃ ys : List Int, ys.length = T.length + 1 ∧ BytesI wx wb.heap.size ys ∧ Below wb.heap.size wb wx)
          case first =>
            go_region
            all_goals
              go_wp2_with fail
              go_meet
              exact ⟨rfl, (asI (T ++ [120])).set k2 _, by rw [List.length_set, HTx.out], (HBY.out.set k2 _).drew, below_drew' (hX5.out.setCell (p := ⟨wb.heap.size, k2, none⟩) (Nat.le_refl _) _)⟩
          case rest =>
            obtain ⟨rfl, ys, hys, hby, hX4⟩ := hcut
            have d0 := (hX4.cell (p := ⟨w.heap.size, 0, none⟩) (by show w.heap.size < wb.heap.size; omega)).trans HD0.out
            have hm2 : tmin (raw.length : Int) 200 = ((min raw.length 200 : Nat) : Int) := tmin_nat _ 200
            have hma : min raw.length 200 ≤ raw.length := Nat.min_le_left _ _
            have hmb : min raw.length 200 ≤ 200 := Nat.min_le_right _ _
            generalize min raw.length 200 = m2 at *
            have hs1 := fun W => take_str raw m2 hma W
            have hs2 := fun W => take_str T k2 (by omega) W
            have hc3 := BytesI.str (P := Try.prog) 47 9 5 Try.underlying47 Try.underlying5 Try.underlying9 hby (T.length + 1) c2 hys
            have hc4 := BytesI.str (P := Try.prog) 47 9 5 Try.underlying47 Try.underlying5 Try.underlying9 hby.drew (T.length + 1) c2 hys
            have hysl : (ys.map fun x => UInt8.ofNat x.toNat).length = T.length + 1 := by rw [List.length_map, hys]
            have hrl : (raw.take m2).length ≤ 200 := by rw [List.length_take]; omega
            have htl : (T.take k2).length ≤ 3216 := by rw [List.length_take]; omega
            generalize (ys.map fun x => UInt8.ofNat x.toNat) = Y at *
            generalize raw.take m2 = R at *
            generalize T.take k2 = T2 at *
            have HYL := Lib.hid hysl
            have hX6 := Lib.hid hX4
            have hsz6 : wb.heap.size < wc.heap.size := hby.lt
            clear hby hysl hX5 HBY HTx hys hX4
            obtain ⟨wy, hwy⟩ : ∃ wy, wy = wc := ⟨_, rfl⟩
            subst hwy
            go_upto_region 16 with (fail)
            go_cut [116, 117, 118] (fun s s1 s2 wx => s = .slice (some ⟨wy.heap.size, 0, none⟩) 4 4 ∧ s1 = .int .i64 4 ∧ s2 = .int .i64 0 ∧ SlAt (fun t : List UInt8 => [Value.string (S t)]) 1 wx (some ⟨wy.heap.size, 0, none⟩) [R, T, Y, T2] ∧ Below wy.heap.size wy wx)
            case first =>
              go_big_region
              all_goals
                go_wp2_with fail
                go_meet
                exact ⟨rfl, rfl, rfl, SlAt.kept (SlAt.new wy _ _ (0, 0) [R, T, Y, T2] (by simp) (by simp)) (below_drew' (Below.refl _ _)) (Nat.le_refl _), below_drew' ((Below.refl _ _).alloc (Nat.le_refl _) _)⟩
            case rest =>
              obtain ⟨rfl, rfl, rfl, hst, hX7⟩ := hcut
              have hBw := HB3'.out.trans ((hX6.out.trans (hX7.mono (by omega))).mono (by omega))
              have HB5 := Lib.hid hBw
              have hlen4 : ∀ j (h : j < [R, T, Y, T2].length), ([R, T, Y, T2][j]).length ≤ 4000 := fun j h => by
                have h1 := HYL.out
                match j, h with
                | 0, _ => show R.length ≤ 4000; omega
                | 1, _ => show T.length ≤ 4000; omega
                | 2, _ => show Y.length ≤ 4000; omega
                | 3, _ => show T2.length ≤ 4000; omega
              have HL4 := Lib.hid hlen4
              have hts : [R, T, Y, T2].length = 4 := rfl
              have HST := Lib.hid hst
              clear hst hX7 hlen4 d0 hs1 hs2 hc3 hc4 hki hm2 hmin
              generalize [R, T, Y, T2] = ts at *
              have HTS := Lib.hid hts
              clear hts HB3' hX6
              clear hcut
              go_wp2_with fail
              go_loopw [118] (fun i wr => ∃ j : Nat, i = .int .i64 j ∧ j ≤ 4 ∧ Below wc.heap.size wc wr) (fun i _ => 4 - (intOf i).toNat)
              case atStart => exact ⟨0, rfl, Nat.zero_le _, Below.refl _ _⟩
              case round =>
                obtain ⟨j, rfl, hj, hBr⟩ := hrel
                have hj0 : (0 : Int) ≤ (j : Int) := Int.natCast_nonneg _
                by_cases hj4 : j < 4
                · have hj1 : (j : Int) < 4 := by omega
                  have hjt : j < ts.length := by rw [HTS.out]; exact hj4
                  obtain ⟨b, off, e, hb, hcell⟩ := (HST.out.kept hBr (Nat.le_refl _)).at (by rw [HTS.out]; omega)
                  simp only [Option.some.injEq, Addr.mk.injEq] at e
                  obtain ⟨rfl, rfl, -⟩ := e
                  have t0 := hcell j hjt 0 _ rfl
                  rw [Nat.zero_add, Nat.mul_one, Nat.add_zero] at t0
                  have hlj := HL4.out j hjt
                  clear hcell
                  generalize ts[j] = t at *
                  have hPr := parseE_right t
                  have hPl := parseE_len t
                  have hfp := fun W => leafParse_any t (by omega) W
                  have hrp := fun W => refParse_any t (by omega) W
                  generalize parseE t = P at *
                  have HPR := Lib.hid hPr.2
                  have HFP := Lib.hid hfp
                  have HRP := Lib.hid hrp
                  clear hPr hfp hrp
                  go_wp2_with fail
                  refine (thread (HFP.out _) wr.heap.size wr (Below.refl _ _) (Nat.le_refl _)).mono ?_
                  rintro e w3 ⟨⟨a3, c3, rfl, ho3⟩, hX8, -, -, -, hz8⟩
                  have HO3 := Lib.hid (BoxE.of_own ho3)
                  clear ho3
                  go_wp2_with fail
                  refine (thread (HRP.out _) w3.heap.size w3 (by go_grown) (by go_grown)).mono ?_
                  rintro e w4 ⟨⟨a4, c4, rfl, ho4⟩, hX9, hk9, -, -, hz9⟩
                  have e0 : w4.cell? ⟨w3.heap.size, 0, none⟩ = some (.slice a3 P.1.length c3) := (hk9 w3.heap.size 0 (by simp)).trans (by simp)
                  have HO4 := Lib.hid (SlE.of_row ho4).2
                  have HO3' := Lib.hid (HO3.out.kept hX9 (Nat.le_refl _))
                  have hB9 := hBr.trans ((hX8.trans (hX9.mono hz8)).mono hBr.size)
                  clear ho4 hk9 hX8 hX9 HFP HRP t0
                  go_wp2_with fail
                  refine (thread (sameE_any a3 P.1.length c3 a4 c4 P.1 w4 rfl HO3'.out HO4.out (by omega) HPR.out) w4.heap.size w4 (by go_grown) (by go_grown)).mono ?_
                  rintro e w5 ⟨rfl, hX10, -, -, -, hz10⟩
                  have hB10 := hB9.trans (hX10.mono hB9.size)
                  go_wp2_with fail
                  go_roundw
                  (case rel => exact (⟨j + 1, by go_num, by omega, hB10⟩))
                  (case measure => first | (simp [intOf]; done) | (simp [intOf]; omega))
                · obtain rfl : j = 4 := by omega
                  have hBe := HB5.out.trans (hBr.mono HB5.out.size)
                  go_wp2_with fail
                  refine (thread (wakesE_any _) wr.heap.size wr (Below.refl _ _) (Nat.le_refl _)).mono ?_
                  rintro e w3 ⟨rfl, hX8, -, -, -, hz8⟩
                  go_wp2_with fail
                  go_ret
                  exact ⟨rfl, hBe.trans (hX8.mono hBe.size)⟩

end Go.Proofs.Ytcjeonamebnpfaa
