/-
  The walk of room: a message of a key may come into the root. The sums of what is known stay small. The walk of Apply. The walk of Scan, whatever tree. A tree in a law: all of it made since the law began; what grows with each update. The walk of what the document fixes.
-/
import Derived.Test.YtafciefjlkdecaaGreatQsf
set_option maxRecDepth 100000
set_option maxHeartbeats 16000000
namespace Go.Proofs.YtafciefjlkdecaaGreat
open Go.RowKit
attribute [local go_sem ↓] Go.wp_at_zero Go.wp_at_succ
structure RM (K : Kx) (n : Nat) (w : World) (v : Vt) (T : Tx) (n1 : Nat) (w1 : World) (v1 : Vt) (T1 : Tx) (g : List Int) (l : List Nat) : Prop where
 run : RunT K n w v T n1 w1 v1 T1 g l
 gd : Gd K n v → 0 < T.wr ∨ (Gd K n1 v1 ∧ ∀ m ∈ l, K.B / K.F ≤ m)
def RoomOut (K : Kx) (n : Nat) (w : World) (v : Vt) (T : Tx) (key : List UInt8) (e : Ending) (w' : World) : Prop := ∃ n1 v1 T1 g l, RM K n w v T n1 w' v1 T1 g l ∧ ((e = .returned (.int .i64 0) ∧ v1.ld = true ∧ (n1 = 0 ∨ getL v1.us key ≠ none ∨ v1.us.length < K.B)) ∨ (e = .returned (.int .i64 10) ∧ 0 < T.wr))
theorem gd_seat' {K : Kx} {n : Nat} {v v' : Vt} (hL : Loads v v') (h : Gd K n v) : Gd K n v' := by
 cases n with
 | zero =>
  show v'.es.length ≤ K.L
  rw [hL.es]; exact h
 | succ n =>
  have h0 : v.ch.length ≤ K.F ∧ v.us.length ≤ K.B ∧ ∀ x ∈ v.ch, Gd K n x.2 := h
  exact ⟨by rw [hL.len]; exact h0.1, by rw [hL.us]; exact h0.2.1, hL.gk (K := K) (n := n + 1) h0.2.2⟩
theorem roomT {K : Kx} {n : Nat} {v : Vt} {T : Tx} (key : List UInt8) (w : World) (hP : PlanOk K) (ht : TrOk K n w v T) :
  Calls Tryz.prog 39 #[.pointer (some ⟨K.tb, 0, none⟩), .string (S key)] w fun e w' => RoomOut K n w v T key e w' := by
 have H0 := Lib.hid (show RM K n w v T n w v T [] [] from ⟨RunT.refl ht.m ht.nd ht.c, fun q => Or.inr ⟨q, fun m hm => by simp at hm⟩⟩)
 have HP := Lib.hid (And.intro hP ht)
 obtain ⟨tb, htb⟩ : ∃ tb, tb = K.tb := ⟨_, rfl⟩
 rw [← htb]
 have Htb := Lib.hid htb
 clear hP ht htb
 go_enter Tryz.func39, Tryz.ntmps39
 go_wp2_with fail
 go_loopg [] (mu n v) (fun g wx => Hid (∃ n1 v1 T1 gg l, RM K n w v T n1 wx v1 T1 gg l ∧ g = mu n1 v1))
 case atStart => exact Lib.hid ⟨n, v, T, [], [], H0.out, rfl⟩
 case round =>
  obtain ⟨n1, v1, T1, gg, l, hO, hnum⟩ := hrel.out
  have htr := HP.out.2.next HP.out.1 hO.run
  have t4 : wr.cell? ⟨tb, 4, none⟩ = some (.pointer (some ⟨v1.b, 0, none⟩)) := by rw [Htb.out]; exact htr.c.tr.c4
  have t5 : wr.cell? ⟨tb, 5, none⟩ = some (.int .i64 ((n1 + 1 : Nat) : Int)) := by rw [Htb.out]; exact htr.c.tr.c5
  have hn8 := htr.n8
  have HHO := Lib.hid (fun w' (hb : Below wr.heap.size wr w') => hold_any ((n1 : Int) + 1) w' rfl (htr.c.on hb) (htr.m.on hb) htr.nd htr.ok htr.sh HP.out.1.near (Nat.le_trans (Nat.le_trans (Nat.le_add_right _ _) htr.pot) (by omega)) htr.wr)
  rw [← Htb.out] at HHO
  have HRL := Lib.hid (fun (e : Ending) (w' w3 : World) (hb : Below wr.heap.size wr w') (h : ∃ wr' v', wr' ≤ T1.wr ∧ Mv K v1.b (n1 + 1) n1 w' v1 T1 w3 v' { T1 with wr := wr' } ∧ (v' = v1 ∨ Loads v1 v') ∧ ((e = .returned (.int .i64 0) ∧ v'.ld = true) ∨ (e = .returned (.int .i64 10) ∧ 0 < T1.wr))) => show ∃ x : Int, e = .returned (.int .i64 x) ∧ Hid (∃ v2 T2 gg l, RM K n w v T n1 w3 v2 T2 gg l ∧ gk = mu n1 v2 ∧ ((x = 0 ∧ v2.ld = true) ∨ (x = 10 ∧ 0 < T.wr))) from by
   obtain ⟨wr', v', h1, h2, h3, h4⟩ := h
   have r1 := ((hO.run.on hb).trans (Ran.of_mv (by rcases h3 with rfl | h3; · exact .refl _ _
                                                   ·exact .load h3) h2 (by simp) rfl rfl h1).tree)
   simp only [List.append_nil] at r1
   have h5 : mu n1 v' = mu n1 v1 := by
    rcases h3 with rfl | h3
    ·rfl
    ·exact h3.mu_eq n1
   have h6 : Gd K n1 v1 → Gd K n1 v' := fun q => by
    rcases h3 with rfl | h3
    ·exact q
    ·exact gd_seat' h3 q
   have hrm : RM K n w v T n1 w3 v' { T1 with wr := wr' } gg l := ⟨r1, fun q => (hO.gd q).imp id fun q => ⟨h6 q.1, q.2⟩⟩
   rcases h4 with ⟨q1, q2⟩ | ⟨q1, q2⟩
   ·exact ⟨0, q1, Lib.hid ⟨v', _, gg, l, hrm, by rw [h5]; exact hnum, Or.inl ⟨rfl, q2⟩⟩⟩
   ·exact ⟨10, q1, Lib.hid ⟨v', _, gg, l, hrm, by rw [h5]; exact hnum, Or.inr ⟨rfl, Nat.lt_of_lt_of_le q2 hO.run.wr⟩⟩⟩)
  clear hO hnum htr hrel
  go_upto_region 1 with (fail)
  go_cut [5] from 9 to 72 (fun s5 wx => ∃ x : Int, s5 = .int .i64 x ∧ Hid (∃ v2 T2 gg l, RM K n w v T n1 wx v2 T2 gg l ∧ gk = mu n1 v2 ∧ ((x = 0 ∧ v2.ld = true) ∨ (x = 10 ∧ 0 < T.wr))))
  case first =>
   have hdr : Below wr.heap.size wr wr.drew := below_drew' (Below.refl _ _)
   go_region_law (first | (go_simp; go_at_call 62; refine (HHO.out wr.drew hdr).mono ?_; rintro e w3 h3; obtain ⟨x3, rfl, hr3⟩ := HRL.out e wr.drew w3 hdr h3; clear h3))
   all_goals
    go_wp2_with fail
    go_meet
    exact ⟨x3, rfl, hr3⟩
  case rest =>
  obtain ⟨x3, rfl, HR⟩ := hcut
  obtain ⟨w3, hw3⟩ : ∃ w3, w3 = wc := ⟨_, rfl⟩
  subst hw3
  clear HRL HHO t4 t5
  obtain ⟨v2, T2, g2, l2, hO, hnum, hor⟩ := HR.out
  rcases hor with ⟨rfl, hld⟩ | ⟨rfl, hpos⟩
  case inr =>
   go_wp2_with fail
   go_ret
   show RoomOut K n w v T key (.returned (.int .i64 10)) w3
   exact ⟨n1, v2, T2, g2, l2, hO, Or.inr ⟨rfl, hpos⟩⟩
  case inl =>
  have htr := HP.out.2.next HP.out.1 hO.run
  have t4 : w3.cell? ⟨tb, 4, none⟩ = some (.pointer (some ⟨v2.b, 0, none⟩)) := by rw [Htb.out]; exact htr.c.tr.c4
  have t5 : w3.cell? ⟨tb, 5, none⟩ = some (.int .i64 ((n1 + 1 : Nat) : Int)) := by rw [Htb.out]; exact htr.c.tr.c5
  have HO := Lib.hid (And.intro hO (And.intro hnum (And.intro hld htr)))
  clear hO hnum hld htr HR
  by_cases h0 : n1 = 0
  ·subst h0
   replace t5 : w3.cell? ⟨tb, 5, none⟩ = some (.int .i64 1) := t5
   go_wp2_with fail
   go_ret
   show RoomOut K n w v T key (.returned (.int .i64 0)) w3
   exact ⟨0, v2, T2, g2, l2, HO.out.1, Or.inl ⟨rfl, HO.out.2.2.1, Or.inl rfl⟩⟩
  ·obtain ⟨nn, hnn⟩ : ∃ nn, n1 = nn + 1 := ⟨n1 - 1, by omega⟩
   subst hnn
   have hb5 : ¬ ((nn : Int) + 1 + 1 = 1) := by omega
   have HG := Lib.hid (show ∃ a2 ul y2, ul = v2.us.length ∧ w3.cell? ⟨v2.b, 7, none⟩ = some (.slice a2 ul y2) ∧ (∀ w', Below w3.heap.size w3 w' → Calls Tryz.prog 54 #[.agg #[.slice a2 ul y2], .string (S key)] w' fun e w'' => e = .returned (getV (getL v2.us key)) ∧ Below w'.heap.size w' w'') from by
    obtain ⟨hO, hnum, hld, htr⟩ := HO.out
    obtain ⟨⟨-, qa, qg, qs, b1, y1, b2, y2, b3, y3, hvt, -, hnode, -⟩, -⟩ := htr.m.node hld
    have hus := pot_us htr.pre.pot
    exact ⟨b2, v2.us.length, y2, rfl, hvt.c7, fun w' hb => get_any _ v2.us key w' (BoxU.kept ⟨_, rfl, hnode.parts.2⟩ hb (Nat.le_refl _)) (by omega) htr.ok.usr⟩)
   obtain ⟨a2, ul, y2, hul, c7, hget⟩ := HG.out
   have HGT := Lib.hid (And.intro hul hget)
   have p1 : w3.cell? ⟨tb, 1, none⟩ = some (.int .i64 K.B) := by rw [Htb.out]; exact HO.out.2.2.2.c.tr.c1
   obtain ⟨B, hB⟩ : ∃ B, B = K.B := ⟨_, rfl⟩
   rw [← hB] at p1
   have HB := Lib.hid hB
   obtain ⟨vb, hvb⟩ : ∃ vb, vb = v2.b := ⟨_, rfl⟩
   rw [← hvb] at t4 c7
   have HVB := Lib.hid hvb
   obtain ⟨gl, hgl⟩ : ∃ gl, gl = getL v2.us key := ⟨_, rfl⟩
   have HGL := Lib.hid hgl
   obtain ⟨bw, ub, hgv, hbw⟩ : ∃ (bw : Bool) (uk : Nat × List UInt8 × List UInt8 × Nat), getV gl = .tuple #[.agg #[.int .u8 uk.1, .string (S uk.2.1), .string (S uk.2.2.1), .int .u64 uk.2.2.2], .bool bw] ∧ bw = gl.isSome := by
    cases gl with
    | none => exact ⟨false, (0, [], [], 0), rfl, rfl⟩
    | some u => exact ⟨true, (u.kind, u.key, u.val, u.delta), rfl, rfl⟩
   have HGV := Lib.hid (And.intro hgv hbw)
   have hget2 := Lib.hid (fun w' (hb : Below w3.heap.size w3 w') => by
    have := hget w' hb
    rw [← hgl, hgv] at this
    exact this)
   clear hul hget hB hvb hgl hgv hbw HG
   go_wp2_with fail
   refine (hget2.out w3 (Below.refl _ _)).mono ?_
   rintro e w4 ⟨rfl, hX4⟩
   have t44 := kept_cell hX4 t4
   have c74 := kept_cell hX4 c7
   have p14 := kept_cell hX4 p1
   have t54 := kept_cell hX4 t5
   have HX4 := Lib.hid hX4
   clear t4 c7 p1 t5 hX4 hget2
   go_upto_region 7 with (fail)
   obtain ⟨W5, hW5⟩ : ∃ W5, W5 = (w4.alloc (.cells #[.int .u8 ub.1, .string (S ub.2.1), .string (S ub.2.2.1), .int .u64 ub.2.2.2] 39)) := ⟨_, rfl⟩
   have hX5 : Below w4.heap.size w4 W5 := by rw [hW5]; exact (Below.refl _ _).alloc (Nat.le_refl _) _
   rw [← hW5]
   have t4 := kept_cell hX5 t44
   have c7 := kept_cell hX5 c74
   have p1 := kept_cell hX5 p14
   have t5 := kept_cell hX5 t54
   have HX5 := Lib.hid (HX4.out.trans (hX5.mono HX4.out.size))
   clear t44 c74 p14 t54 hW5 hX5 HX4
   go_cut [57] from 9 to 72 (fun s57 wx => s57 = .bool (bw || decide (ul < B)) ∧ Below W5.heap.size W5 wx)
   case first =>
    cases bw with
    | true =>
     refine WQ.region (C := fun w' => Below W5.heap.size W5 w') (by kernel_rfl) (by kernel_rfl) (below_drew' (Below.refl _ _)) ?_
     refine WV (by rfl) (.bool true) (fun w' hw' => ?_) ?_
     ·have hq' := hw'
      go_simp
     try simp only [Act.put, WA, WB, WC]
     refine WV (by rfl) (.bool true) (fun w' hw' => ?_) ?_
     ·have hq' := hw'
      go_simp
     try simp only [Act.put, WA, WB, WC]
     refine WS (by rfl) ?_
     try simp only [Act.put, WA, WB, WC]
     refine WS (by rfl) ?_
     try simp only [Act.put, WA, WB, WC]
     refine WS (by rfl) ?_
     try simp only [Act.put, WA, WB, WC]
     refine WS (by rfl) ?_
     try simp only [Act.put, WA, WB, WC]
     refine WS (by rfl) ?_
     try simp only [Act.put, WA, WB, WC]
     refine WS (by rfl) ?_
     try simp only [Act.put, WA, WB, WC]
     refine WS (by rfl) ?_
     try simp only [Act.put, WA, WB, WC]
     refine WS (by rfl) ?_
     try simp only [Act.put, WA, WB, WC]
     refine WS (by rfl) ?_
     try simp only [Act.put, WA, WB, WC]
     refine WS (by rfl) ?_
     try simp only [Act.put, WA, WB, WC]
     refine WS (by rfl) ?_
     try simp only [Act.put, WA, WB, WC]
     refine WS (by rfl) ?_
     try simp only [Act.put, WA, WB, WC]
     refine WS (by rfl) ?_
     try simp only [Act.put, WA, WB, WC]
     refine WS (by rfl) ?_
     try simp only [Act.put, WA, WB, WC]
     refine WS (by rfl) ?_
     try simp only [Act.put, WA, WB, WC]
     refine WV (by rfl) (.bool true) (fun w' hw' => ?_) ?_
     ·have hq' := hw'
      go_simp
     try simp only [Act.put, WA, WB, WC]
     refine WQ.done ?_
     intro w6 hX
     go_wp2_with fail
     go_meet
     exact ⟨by simp, hX⟩
    | false =>
     refine WQ.region (C := fun w' => Below W5.heap.size W5 w') (by kernel_rfl) (by kernel_rfl) (below_drew' (Below.refl _ _)) ?_
     refine WV (by rfl) (.bool false) (fun w' hw' => ?_) ?_
     ·have hq' := hw'
      go_simp
     try simp only [Act.put, WA, WB, WC]
     refine WV (by rfl) (.bool false) (fun w' hw' => ?_) ?_
     ·have hq' := hw'
      go_simp
     try simp only [Act.put, WA, WB, WC]
     refine WV (by rfl) (.pointer (some ⟨tb, 0, none⟩)) (fun w' hw' => ?_) ?_
     ·have hq' := hw'
      go_simp
     try simp only [Act.put, WA, WB, WC]
     refine WV (by rfl) (.pointer (some ⟨tb, 0, none⟩)) (fun w' hw' => ?_) ?_
     ·have hq' := hw'
      go_simp
     try simp only [Act.put, WA, WB, WC]
     refine WV (by rfl) (.pointer (some ⟨tb, 4, none⟩)) (fun w' hw' => ?_) ?_
     ·have hq' := hw'
      go_simp
     try simp only [Act.put, WA, WB, WC]
     refine WV (by rfl) (.pointer (some ⟨vb, 0, none⟩)) (fun w' hw' => ?_) ?_
     ·have hq' := hw'
      have z0 := kept_cell hw' t4; have z1 := kept_cell hw' c7; have z2 := kept_cell hw' p1; go_simp
     try simp only [Act.put, WA, WB, WC]
     refine WV (by rfl) (.pointer (some ⟨vb, 0, none⟩)) (fun w' hw' => ?_) ?_
     ·have hq' := hw'
      go_simp
     try simp only [Act.put, WA, WB, WC]
     refine WV (by rfl) (.pointer (some ⟨vb, 6, none⟩)) (fun w' hw' => ?_) ?_
     ·have hq' := hw'
      go_simp
     try simp only [Act.put, WA, WB, WC]
     refine WV (by rfl) (.pointer (some ⟨vb, 7, none⟩)) (fun w' hw' => ?_) ?_
     ·have hq' := hw'
      go_simp
     try simp only [Act.put, WA, WB, WC]
     refine WV (by rfl) (.agg #[.slice a2 ul y2]) (fun w' hw' => ?_) ?_
     ·have hq' := hw'
      have z0 := kept_cell hw' t4; have z1 := kept_cell hw' c7; have z2 := kept_cell hw' p1; go_simp
     try simp only [Act.put, WA, WB, WC]
     refine WV (by rfl) (.int .i64 ul) (fun w' hw' => ?_) ?_
     ·have hq' := hw'
      go_simp
      go_at_call 63
      refine (lenU_next a2 ul y2 _).mono ?_
      rintro e w6 ⟨he, hb6⟩
      exact ⟨he, hq'.trans (hb6.mono hq'.size)⟩
     try simp only [Act.put, WA, WB, WC]
     refine WV (by rfl) (.pointer (some ⟨tb, 0, none⟩)) (fun w' hw' => ?_) ?_
     ·have hq' := hw'
      go_simp
     try simp only [Act.put, WA, WB, WC]
     refine WV (by rfl) (.pointer (some ⟨tb, 0, none⟩)) (fun w' hw' => ?_) ?_
     ·have hq' := hw'
      go_simp
     try simp only [Act.put, WA, WB, WC]
     refine WV (by rfl) (.pointer (some ⟨tb, 0, none⟩)) (fun w' hw' => ?_) ?_
     ·have hq' := hw'
      go_simp
     try simp only [Act.put, WA, WB, WC]
     refine WV (by rfl) (.pointer (some ⟨tb, 1, none⟩)) (fun w' hw' => ?_) ?_
     ·have hq' := hw'
      go_simp
     try simp only [Act.put, WA, WB, WC]
     refine WV (by rfl) (.int .i64 B) (fun w' hw' => ?_) ?_
     ·have hq' := hw'
      have z0 := kept_cell hw' t4; have z1 := kept_cell hw' c7; have z2 := kept_cell hw' p1; go_simp
     try simp only [Act.put, WA, WB, WC]
     refine WV (by rfl) (.bool (decide (ul < B))) (fun w' hw' => ?_) ?_
     ·have hq' := hw'
      go_simp
     try simp only [Act.put, WA, WB, WC]
     refine WV (by rfl) (.bool (decide (ul < B))) (fun w' hw' => ?_) ?_
     ·have hq' := hw'
      go_simp
     try simp only [Act.put, WA, WB, WC]
     refine WQ.done ?_
     intro w6 hX
     go_wp2_with fail
     go_meet
     exact ⟨by simp, hX⟩
   case rest =>
   obtain ⟨rfl, hX⟩ := hcut
   obtain ⟨w6, hw6⟩ : ∃ w6, w6 = wc := ⟨_, rfl⟩
   subst hw6
   have HX6 := Lib.hid (HX5.out.trans (hX.mono HX5.out.size))
   have t46 := kept_cell hX t4
   have t56 := kept_cell hX t5
   clear t4 c7 p1 t5 hX HX5
   by_cases hq : (bw || decide (ul < B)) = true
   ·rw [hq]
    have HQ := Lib.hid hq
    clear hq
    go_wp2_with fail
    go_ret
    show RoomOut K n w v T key (.returned (.int .i64 0)) w6
    obtain ⟨hO, hnum, hld, htr⟩ := HO.out
    refine ⟨nn + 1, v2, T2, g2, l2, ⟨hO.run.on HX6.out, hO.gd⟩, Or.inl ⟨rfl, hld, Or.inr ?_⟩⟩
    have h1 := HQ.out
    rw [Bool.or_eq_true] at h1
    rcases h1 with h1 | h1
    ·rw [HGV.out.2, HGL.out] at h1
     exact Or.inl fun q => by rw [q] at h1; simp at h1
    ·have h2 := of_decide_eq_true h1
     rw [HGT.out.1, HB.out] at h2
     exact Or.inr h2
   ·have hqf : (bw || decide (ul < B)) = false := by simpa using hq
    rw [hqf]
    have HQ := Lib.hid hqf
    clear hq hqf
    have HU := Lib.hid (show K.B ≤ v2.us.length from by
     have h1 := HQ.out
     rw [Bool.or_eq_false_iff] at h1
     have h2 := of_decide_eq_false h1.2
     rw [HGT.out.1, HB.out] at h2
     omega)
    have HHC := Lib.hid (fun (q : Int) w' (hq : q = (nn : Int) + 2) (hb : Below w6.heap.size w6 w') => by
     obtain ⟨hO, hnum, hld, htr⟩ := HO.out
     exact hand_all nn K v2.b (nn + 1 + 1) [] [] w' v2 T2 q HP.out.1 ((htr.on HX6.out).on hb).pre hld (fun q => by
      have h1 := HU.out
      have h2 := HP.out.1.B
      rw [q] at h1; simp at h1; omega) hq (by have := htr.n8; omega))
    rw [← Htb.out, ← HVB.out] at HHC
    have HRL2 := Lib.hid (fun (e : Ending) (w' w7 : World) (hb : Below w6.heap.size w6 w') (h : ∃ v' T' g l, Ran K v2.b (nn + 1 + 1) (nn + 1) w' v2 T2 w7 v' T' g l ∧ ((e = .returned (.int .i64 0) ∧ v'.kn = none ∧ l ≠ [] ∧ (Gk K (nn + 1) v2 → Gk K (nn + 1) v')) ∨ (e = .returned (.int .i64 10) ∧ 0 < T2.wr)) ∧ ((K.B ≤ v2.us.length ∧ v2.ch.length ≤ K.F) → ∀ m ∈ l, K.B / K.F ≤ m)) => show ∃ x : Int, e = .returned (.int .i64 x) ∧ Hid (∃ v3 T3 gg l, RunT K n w v T (nn + 1) w7 v3 T3 gg l ∧ ((x = 0 ∧ mu (nn + 1) v3 < gk ∧ v3.ld = true ∧ v3.kn = none ∧ (Gd K n v → 0 < T.wr ∨ (GkB K (nn + 1) v3 ∧ ∀ m ∈ l, K.B / K.F ≤ m))) ∨ (x = 10 ∧ 0 < T.wr))) from by
     obtain ⟨v', T', g', l', hR, hor, hbg⟩ := h
     obtain ⟨hO, hnum, hld, htr⟩ := HO.out
     have r1 := ((hO.run.on HX6.out).on hb).trans hR.tree
     rcases hor with ⟨q1, q2, q3, q4⟩ | ⟨q1, q2⟩
     ·refine ⟨0, q1, Lib.hid ⟨v', T', _, _, r1, Or.inl ⟨rfl, ?_, hR.sm.kept.ld hld, q2, fun hg => (hO.gd hg).imp id fun hg2 => ?_⟩⟩⟩
      ·have h5 := (hR.sm.less HP.out.1.F HP.out.1.L htr.ok).mu
       have h6 := len_le_sum hR.sm.pos
       have h7 : 0 < l'.length := List.length_pos_iff.2 q3
       omega
      ·obtain ⟨g1, g2⟩ := hg2
       have g3 : v2.ch.length ≤ K.F ∧ v2.us.length ≤ K.B ∧ ∀ x ∈ v2.ch, Gd K nn x.2 := g1
       refine ⟨⟨q4 g1.gk, Nat.le_trans (hR.sm.us_le htr.ok) g3.2.1⟩, fun m hm => ?_⟩
       rcases List.mem_append.1 hm with hm | hm
       ·exact g2 m hm
       ·exact hbg ⟨HU.out, g3.1⟩ m hm
     ·exact ⟨10, q1, Lib.hid ⟨v', T', _, _, r1, Or.inr ⟨rfl, Nat.lt_of_lt_of_le q2 hO.run.wr⟩⟩⟩)
    go_upto_region 9 with (fail)
    go_cut [8] from 9 to 72 (fun s8 wx => ∃ x : Int, s8 = .int .i64 x ∧ Hid (∃ v3 T3 gg l, RunT K n w v T (nn + 1) wx v3 T3 gg l ∧ ((x = 0 ∧ mu (nn + 1) v3 < gk ∧ v3.ld = true ∧ v3.kn = none ∧ (Gd K n v → 0 < T.wr ∨ (GkB K (nn + 1) v3 ∧ ∀ m ∈ l, K.B / K.F ≤ m))) ∨ (x = 10 ∧ 0 < T.wr))))
    case first =>
     have hdr : Below w6.heap.size w6 w6.drew := below_drew' (Below.refl _ _)
     go_region_law (first | (go_simp; go_at_call 64; refine (HHC.out _ w6.drew (by omega) hdr).mono ?_; rintro e w7 h7; obtain ⟨x7, rfl, hr7⟩ := HRL2.out e w6.drew w7 hdr (by rw [← HVB.out]; exact h7); clear h7))
     all_goals
      go_wp2_with fail
      go_meet
      exact ⟨x7, rfl, hr7⟩
    case rest =>
    obtain ⟨x7, rfl, HR⟩ := hcut
    obtain ⟨w7, hw7⟩ : ∃ w7, w7 = wc := ⟨_, rfl⟩
    subst hw7
    clear HRL2 HHC t46 t56
    obtain ⟨v3, T3, g3, l3, hR3, hor⟩ := HR.out
    rcases hor with ⟨rfl, hmu, hl3, hk3, hg3⟩ | ⟨rfl, hpos⟩
    case inr =>
     go_wp2_with fail
     go_ret
     show RoomOut K n w v T key (.returned (.int .i64 10)) w7
     exact ⟨nn + 1, v3, T3, g3, l3, ⟨hR3, fun _ => Or.inl hpos⟩, Or.inr ⟨rfl, hpos⟩⟩
    case inl =>
    have HTP := Lib.hid (topT w7 HP.out.1 (HP.out.2.next HP.out.1 hR3) hl3 hk3)
    rw [← Htb.out] at HTP
    have HR3 := Lib.hid (And.intro hR3 (And.intro hmu hg3))
    clear hR3 hmu hg3 HR
    go_wp2_with fail
    refine HTP.out.mono ?_
    rintro e w8 ⟨rfl, n8, v8, T8, g8, l8, hT⟩
    have HT := Lib.hid hT
    clear hT
    go_wp2_with fail
    go_roundg (mu n8 v8)
    case measure =>
     obtain ⟨hR3, hmu, hg3⟩ := HR3.out
     have := (HT.out.run.rt.less HP.out.1.F HP.out.1.L (HP.out.2.next HP.out.1 hR3).ok).mu
     omega
    case rel =>
     obtain ⟨hR3, hmu, hg3⟩ := HR3.out
     refine Lib.hid ⟨n8, v8, T8, _, _, ⟨hR3.trans HT.out.run, fun hg => ?_⟩, rfl⟩
     rcases hg3 hg with q | ⟨q1, q2⟩
     ·exact Or.inl q
     ·rcases HT.out.gd q1 with q | q
      ·exact Or.inl (Nat.lt_of_lt_of_le q hR3.wr)
      ·refine Or.inr ⟨q, fun m hm => ?_⟩
       rcases List.mem_append.1 hm with hm | hm
       ·exact q2 m hm
       ·exact HT.out.big m hm
end Go.Proofs.YtafciefjlkdecaaGreat
namespace Go.Proofs.YtafciefjlkdecaaGreat
open Go.RowKit
def PsOk : Nat → Vt → Prop
 | 0, v => ∀ p, v.kn = some p → p.s < 4294967296
 | n + 1, v => (∀ p, v.kn = some p → p.s < 4294967296) ∧ ∀ x ∈ v.ch, PsOk n x.2
theorem PsOk.root {n : Nat} {v : Vt} (h : PsOk n v) : ∀ p, v.kn = some p → p.s < 4294967296 := by
 cases n with
 | zero => exact h
 | succ n => exact h.1
theorem PsOk_seat : ∀ {n : Nat} {t : Vt} {b : Nat} {m l : Bool}, PsOk n { t with b := b, mem := m, ld := l } ↔ PsOk n t
 | 0, _, _, _, _ => Iff.rfl
 | _ + 1, _, _, _, _ => Iff.rfl
theorem Loads.pso {v v' : Vt} (h : Loads v v') : ∀ {n : Nat}, PsOk n v → PsOk n v'
 | 0, hs => fun p hp => hs p (by rw [← h.kn]; exact hp)
 | n + 1, hs => ⟨fun p hp => hs.1 p (by rw [← h.kn]; exact hp), by
  refine seat_all (P := fun _ _ t => PsOk n t) h.ch hs.2 fun c t t' e hk => ?_
  have h1 := (PsOk_seat (n := n) (t := t) (b := 0) (m := false) (l := t.ld)).2 hk
  have h2 : PsOk n (seat (c, t)).2 := h1
  rw [e] at h2
  exact (PsOk_seat (n := n) (t := t') (b := 0) (m := false) (l := t'.ld)).1 h2⟩
theorem gv_pso {n : Nat} {v : Vt} (l : List Upd) (h : PsOk n v) : PsOk n (gv n v l) := by
 cases n with
 | zero => exact fun p hp => h p hp
 | succ n => exact ⟨fun p hp => h.1 p hp, h.2⟩
theorem kn_pso {n : Nat} {v : Vt} (h : PsOk n v) : PsOk n { v with kn := none } := by
 cases n with
 | zero => exact fun p hp => (by cases hp)
 | succ n => exact ⟨fun p hp => (by cases hp), h.2⟩
theorem HalfQ.pso {F n : Nat} {c : List UInt8} {t : Vt} {Q : List (Chd × Vt)} (h : HalfQ F c t Q) (hs : PsOk (n + 1) t) : ∀ x ∈ Q, PsOk (n + 1) x.2 := by
 obtain ⟨X, y, Y, ba, bb, e, -, -, -, rfl⟩ := h.ex
 have h2 := hs.2
 rw [e] at h2
 intro x hx
 simp only [List.mem_cons, List.not_mem_nil, or_false] at hx
 rcases hx with rfl | rfl
 ·exact ⟨fun p hp => (by cases hp), fun z hz => h2 z (List.mem_append_left _ hz)⟩
 ·exact ⟨fun p hp => (by cases hp), fix_snd (P := PsOk n) fun z hz => h2 z (List.mem_append_right _ hz)⟩
theorem Sm.pso {F L : Nat} {n : Nat} {v v' : Vt} {g : List Int} {h : List Nat} (s : Sm F L n v v' g h) : PsOk n v → PsOk n v' := by
 induction s with
 | refl n v => exact id
 | trans _ _ ih1 ih2 => exact fun h => ih2 (ih1 h)
 | load hl => exact hl.pso
 | soil => exact kn_pso
 | @kid n v A c t t' D g h e hk _ ih =>
  exact fun hs => ⟨hs.1, put_all (P := PsOk n) (Q := [(c, t')]) e hs.2 fun z hz => by
   rw [List.mem_singleton] at hz
   subst hz
   exact ih (hs.2 (c, t) (by rw [e]; simp))⟩
 | @kidLoad n v A c t t' D e hl =>
  exact fun hs => ⟨hs.1, put_all (P := PsOk n) (Q := [(c, t')]) e hs.2 fun z hz => by
   rw [List.mem_singleton] at hz
   subst hz
   exact hl.pso (hs.2 (c, t) (by rw [e]; simp))⟩
 | @hand n v A c t D e hk ht _ =>
  exact fun hs => ⟨hs.1, put_all (P := PsOk n) (Q := [(c, gv n t _)]) e hs.2 fun z hz => by
   rw [List.mem_singleton] at hz
   subst hz
   exact gv_pso _ (hs.2 (c, t) (by rw [e]; simp))⟩
 | @parts v A c t D Q e hk ht hL hP =>
  exact fun hs => ⟨hs.1, fix_snd (P := PsOk 0) (put_all e hs.2 fun z hz p hp => by rw [(hP.leaf z hz).2.2.2.2] at hp; cases hp)⟩
 | @halve n v A c t D Q e hk ht hP =>
  exact fun hs => ⟨hs.1, fix_snd (P := PsOk (n + 1)) (put_all e hs.2 (hP.pso (hs.2 (c, t) (by rw [e]; simp))))⟩
 | @drop v A c t D e hk ht he hne =>
  exact fun hs => ⟨hs.1, fix_snd (P := PsOk 0) (put_all (Q := []) e hs.2 fun z hz => by simp at hz)⟩
theorem Rt.pso {F L : Nat} {n n' : Nat} {v v' : Vt} {g : List Int} {h : List Nat} (s : Rt F L n v n' v' g h) : PsOk n v → PsOk n' v' := by
 induction s with
 | sm s => exact s.pso
 | trans _ _ i1 i2 => exact fun q => i2 (i1 q)
 | @leaf v b Q hk _ hP =>
  refine fun _ => ⟨fun p hp => (by cases hp), fix_snd (P := fun t => PsOk 0 t) fun x hx p hp => ?_⟩
  rw [(hP.leaf x hx).2.2.2.2] at hp; cases hp
 | @rise n v b Q hk hP => exact fun q => ⟨fun p hp => (by cases hp), fix_snd (P := fun t => PsOk (n + 1) t) (hP.pso q)⟩
 | @down n v c t hk _ hc => exact fun q => q.2 (c, t) (by rw [hc]; simp)
open Go.RowKit
attribute [local go_sem ↓] Go.wp_at_zero Go.wp_at_succ
structure AP (K : Kx) (n : Nat) (w : World) (v : Vt) (T : Tx) (u : Upd) (n1 : Nat) (w1 : World) (v1 : Vt) (T1 : Tx) (g : List Int) (l : List Nat) : Prop where
 ok : TrOk K n1 w1 v1 T1
 den : ∀ q, den n1 v1 q = actO (getL [u] q) (den n v q)
 addrs : (addrs n1 v1 ++ g).Perm (addrs n v)
 fresh : ∀ b ∈ blocks n1 v1, b ∈ blocks n v ∨ w.heap.size ≤ b
 gvb : ∀ x, T1.gv.ownBlock = some x → T.gv.ownBlock = some x ∨ w.heap.size ≤ x
 keep : Keep (fun x => Own K T x ∨ x ∈ blocks n v) w w1
 gone : T1.gone = T.gone ++ g
 fl : T1.fl = T.fl + l.length
 le : T1.le = l.foldl lmin T.le
 wr : T1.wr ≤ T.wr
 pot : pot n1 v1 + 2 ^ (n1 + 1) ≤ pot n v + 2 ^ (n + 1) + 1
 mu : mu n1 v1 + l.sum ≤ mu n v + 20
 om : om n1 v1 + l.sum ≤ om n v + n1
 gd : Gd K n v → 0 < T.wr ∨ (Gd K n1 v1 ∧ ∀ m ∈ l, K.B / K.F ≤ m)
 pso : PsOk n v → PsOk n1 v1
theorem RunT.keep_trans {K : Kx} {n n1 : Nat} {w w1 w2 : World} {v v1 : Vt} {T T1 : Tx} {g : List Int} {l : List Nat} (a : RunT K n w v T n1 w1 v1 T1 g l) (b : Keep (fun x => Own K T1 x ∨ x ∈ blocks n1 v1) w1 w2) : Keep (fun x => Own K T x ∨ x ∈ blocks n v) w w2 := a.keep.trans b fun x hx => by
 rcases hx with (q | q | q) | q
 ·exact Or.inl (Or.inl (Or.inl q))
 ·exact Or.inl (Or.inl (Or.inr (Or.inl q)))
 ·rcases a.gvb x q with k | k
  ·exact Or.inl (Or.inl (Or.inr (Or.inr k)))
  ·exact Or.inr k
 ·rcases a.fresh x q with k | k
  ·exact Or.inl (Or.inr k)
  ·exact Or.inr k
def ApOut (K : Kx) (n : Nat) (w : World) (v : Vt) (T : Tx) (u : Upd) (e : Ending) (w' : World) : Prop := (e = .returned (.int .i64 0) ∧ ∃ n1 v1 T1 g l, AP K n w v T u n1 w' v1 T1 g l) ∨ (e = .returned (.int .i64 10) ∧ 0 < T.wr ∧ ∃ n1 v1 T1 g l, RM K n w v T n1 w' v1 T1 g l)
theorem withL_has {l : List Upd} (hr : Rising Upd.key l) (u : Upd) (h : getL l u.key ≠ none) : (withL l u).length = l.length := by
 cases hh : hasKey Upd.key l u.key with
 | false => exact absurd (getL_none hh) h
 | true =>
  obtain ⟨i, hi, hk, e⟩ := withL_old hr hh
  rw [e, List.length_set]
theorem withL_pos {l : List Upd} (hr : Rising Upd.key l) (u : Upd) : withL l u ≠ [] := by
 cases hh : hasKey Upd.key l u.key with
 | false =>
  rw [withL_new hh]
  intro q
  have := congrArg List.length q
  rw [insU_len] at this
  simp at this
 | true =>
  obtain ⟨i, hi, hk, e⟩ := withL_old hr hh
  rw [e]
  intro q
  have := congrArg List.length q
  rw [List.length_set] at this
  simp at this
  rw [this] at hi
  simp at hi
theorem gk_give {K : Kx} {n : Nat} {v : Vt} {u : Upd} (ho : Ok n [] [] v) (hg : Gd K n v) (hw : n = 0 ∨ getL v.us u.key ≠ none ∨ v.us.length < K.B) : GkB K n (gv n { v with kn := none } [u]) := by
 cases n with
 | zero =>
  refine ⟨trivial, ?_⟩
  show v.us.length ≤ K.B
  rw [ho.1]; exact Nat.zero_le _
 | succ n =>
  have hg1 : v.ch.length ≤ K.F ∧ v.us.length ≤ K.B ∧ ∀ x ∈ v.ch, Gd K n x.2 := hg
  refine ⟨hg1.2.2, ?_⟩
  show (withL v.us u).length ≤ K.B
  rcases hw with q | q | q
  ·omega
  ·rw [withL_has ho.usr u q]; exact hg1.2.1
  ·have := withL_len ho.usr u; omega
theorem perm3 {a b c d g1 g2 g3 : List Int} (h1 : (b ++ g1).Perm a) (h2 : (c ++ g2).Perm b) (h3 : (d ++ g3).Perm c) : (d ++ (g1 ++ (g2 ++ g3))).Perm a := by
 have e1 : (d ++ (g1 ++ (g2 ++ g3))).Perm (((d ++ g3) ++ g2) ++ g1) := by
  rw [List.append_assoc, List.append_assoc]
  refine List.Perm.append_left _ ?_
  refine List.Perm.trans List.perm_append_comm ?_
  rw [← List.append_assoc]
  exact List.Perm.append_right _ List.perm_append_comm
 exact e1.trans ((((h3.append_right _).trans h2).append_right _).trans h1)
theorem applyT {K : Kx} {n : Nat} {v : Vt} {T : Tx} (u : Upd) (w : World) (hP : PlanOk K) (ht : TrOk K n w v T) (hu : Tm u) (hpot : pot n v + 2 ^ (n + 1) + 1 ≤ 800) (hmu : T.fl + mu n v + 20 ≤ 1000000000000) :
  Calls Tryz.prog 13 #[.pointer (some ⟨K.tb, 0, none⟩), .agg #[.int .u8 u.kind, .string (S u.key), .string (S u.val), .int .u64 u.delta]] w fun e w' => ApOut K n w v T u e w' := by
 have HC := Lib.hid (fun w' => chk u.kind u.key u.val u.delta hu.wf.1 hu.wf.2 w')
 have hck : (Upd.mk u.kind u.key u.val u.delta).check = 0 := hu.check
 rw [hck] at HC
 have HP := Lib.hid (And.intro hP (And.intro ht (And.intro hu (And.intro hpot hmu))))
 have HRO := Lib.hid (fun w' (hb : Below w.heap.size w w') => roomT u.key w' hP (ht.on hb))
 obtain ⟨tb, htb⟩ : ∃ tb, tb = K.tb := ⟨_, rfl⟩
 rw [← htb] at HRO ⊢
 have Htb := Lib.hid htb
 obtain ⟨kd, hkd⟩ : ∃ kd, kd = u.kind := ⟨_, rfl⟩
 obtain ⟨key, hkey⟩ : ∃ key, key = u.key := ⟨_, rfl⟩
 obtain ⟨val, hval⟩ : ∃ val, val = u.val := ⟨_, rfl⟩
 obtain ⟨dl, hdl⟩ : ∃ dl, dl = u.delta := ⟨_, rfl⟩
 rw [← hkd, ← hkey, ← hval, ← hdl] at HC ⊢
 rw [← hkey] at HRO
 have HU := Lib.hid (And.intro hkd (And.intro hkey (And.intro hval hdl)))
 clear hP ht hu hpot hmu htb hkd hkey hval hdl hck
 go_enter Tryz.func13, Tryz.ntmps13
 go_upto_region 3 with (fail)
 obtain ⟨W1, hW1⟩ : ∃ W1, W1 = w.alloc (.cells #[.int .u8 kd, .string (S key), .string (S val), .int .u64 dl] 39) := ⟨_, rfl⟩
 have hX1 : Below w.heap.size w W1 := by rw [hW1]; exact (Below.refl _ _).alloc (Nat.le_refl _) _
 have hRW : RwAt W1 39 w.heap.size [.int .u8 kd, .string (S key), .string (S val), .int .u64 dl] := by rw [hW1]; exact ⟨RowIs.new w _ [.int .u8 kd, .string (S key), .string (S val), .int .u64 dl]⟩
 obtain ⟨ub, hub⟩ : ∃ ub, ub = w.heap.size := ⟨_, rfl⟩
 rw [← hub] at hRW ⊢
 rw [← hW1]
 clear hW1
 have HUB := Lib.hid hub
 have z0 : W1.cell? ⟨ub, 0, none⟩ = some (.int .u8 kd) := hRW.cell 0
 have z1 : W1.cell? ⟨ub, 1, none⟩ = some (.string (S key)) := hRW.cell 1
 have z2 : W1.cell? ⟨ub, 2, none⟩ = some (.string (S val)) := hRW.cell 2
 have z3 : W1.cell? ⟨ub, 3, none⟩ = some (.int .u64 dl) := hRW.cell 3
 have HX1 := Lib.hid (And.intro hX1 hRW)
 clear hX1 hRW hub
 go_wp2_with fail
 refine (HC.out W1).mono ?_
 rintro e w2 ⟨rfl, hX2⟩
 have z11 := kept_cell hX2 z1
 have HX2 := Lib.hid (show Below w.heap.size w w2 ∧ RwAt w2 39 ub [.int .u8 kd, .string (S key), .string (S val), .int .u64 dl] from ⟨HX1.out.1.trans (hX2.mono HX1.out.1.size), HX1.out.2.kept hX2 (Nat.le_refl _)⟩)
 clear z0 z1 z2 z3 hX2
 go_wp2_with fail
 refine (HRO.out w2 HX2.out.1).mono ?_
 rintro e w3 ⟨n1, v1, T1, g1, l1, hR, hor⟩
 have HR := Lib.hid (show RM K n w v T n1 w3 v1 T1 g1 l1 from ⟨by
  have := ((RunT.refl HP.out.2.1.m HP.out.2.1.nd HP.out.2.1.c).on HX2.out.1).trans hR.run
  simpa using this, hR.gd⟩)
 have hrw3 : RwAt w3 39 ub [.int .u8 kd, .string (S key), .string (S val), .int .u64 dl] := HX2.out.2.keep hR.run.keep (free_block (HP.out.2.1.m.on HX2.out.1) (HP.out.2.1.c.on HX2.out.1) HX2.out.2.row (by decide) (by decide) (by decide) (by decide))
 clear hR HRO HC
 rcases hor with ⟨rfl, hld, hwt⟩ | ⟨rfl, hpos⟩
 case inr =>
  go_wp2_with fail
  go_ret
  show ApOut K n w v T u (.returned (.int .i64 10)) w3
  exact Or.inr ⟨rfl, hpos, n1, v1, T1, g1, l1, HR.out⟩
 case inl =>
 have htr := HP.out.2.1.next HP.out.1 HR.out.run
 have t4 : w3.cell? ⟨tb, 4, none⟩ = some (.pointer (some ⟨v1.b, 0, none⟩)) := by rw [Htb.out]; exact htr.c.tr.c4
 have htl : tb < w3.heap.size := World.block_lt_of_cell? _ _ t4
 have e1 : ∀ x, (w3.alloc x).cell? ⟨tb, 4, none⟩ = some (.pointer (some ⟨v1.b, 0, none⟩)) := fun x => (World.cell?_alloc_past _ _ _ htl).trans t4
 have z0 : w3.cell? ⟨ub, 0, none⟩ = some (.int .u8 kd) := hrw3.cell 0
 have z1 : w3.cell? ⟨ub, 1, none⟩ = some (.string (S key)) := hrw3.cell 1
 have z2 : w3.cell? ⟨ub, 2, none⟩ = some (.string (S val)) := hrw3.cell 2
 have z3 : w3.cell? ⟨ub, 3, none⟩ = some (.int .u64 dl) := hrw3.cell 3
 have hW3 : Below w3.heap.size w3 (w3.alloc (.cells #[.int .u8 kd, .string (S key), .string (S val), .int .u64 dl] 39)).drew := below_drew' ((Below.refl _ _).alloc (Nat.le_refl _) _)
 have huu : (⟨kd, key, val, dl⟩ : Upd) = u := by obtain ⟨q1, q2, q3, q4⟩ := HU.out; rw [q1, q2, q3, q4]
 have HS3 := Lib.hid (show SlU (w3.alloc (.cells #[.int .u8 kd, .string (S key), .string (S val), .int .u64 dl] 39)).drew (.slice (some ⟨w3.heap.size, 0, none⟩) 1 1) [u] from by
  rw [← huu]
  exact ⟨_, _, rfl, SlAt.new w3 _ _ _ [(⟨kd, key, val, dl⟩ : Upd)] (fun x hx => rfl) (by simp; rfl), Nat.le_refl _, by show (1 : Int) ≤ _; omega, fun e => by simp at e⟩)
 have hgv : Given [] [] [u] := ⟨List.pairwise_singleton _ _, fun x hx => by
  rw [List.mem_singleton] at hx
  rw [hx]
  exact ⟨HP.out.2.2.1, withinB_iff.2 ⟨bl_nil _, Or.inl rfl⟩⟩⟩
 have HG := Lib.hid (give_any (.slice (some ⟨w3.heap.size, 0, none⟩) 1 1) [u] _ (htr.c.on hW3) (htr.m.on hW3) htr.nd hld htr.ok (Nat.le_trans (Nat.le_trans (Nat.le_add_right _ _) htr.pot) (by omega)) hgv (by simp) HS3.out (by have := htr.gone; omega))
 rw [← Htb.out] at HG
 have HV := Lib.hid (And.intro htr (And.intro hld (And.intro hwt (And.intro hgv hW3))))
 clear htr hld hwt hgv hW3 huu hrw3 htl
 have HF := Lib.hid (fun (w4 : World) (gv4 : Value) (mv : Mv K v1.b (n1 + 1) n1 (w3.alloc (.cells #[.int .u8 kd, .string (S key), .string (S val), .int .u64 dl] 39)).drew v1 T1 w4 (gv n1 { v1 with kn := none } [u]) { T1 with gv := gv4, gone := T1.gone ++ v1.kn.toList.map Pt.a }) => show Calls Tryz.prog 41 #[.pointer (some ⟨tb, 0, none⟩)] w4 fun e w5 => e = .returned (.tuple #[]) ∧ ApOut K n w v T u (.returned (.int .i64 0)) w5 from by
  obtain ⟨htr, hld, hwt, hgv, hW3⟩ := HV.out
  obtain ⟨hP, ht, hu, hpot, hmu⟩ := HP.out
  have s : Sm K.F K.L n1 v1 { v1 with kn := none } (v1.kn.toList.map Pt.a) [] := Sm.soil' v1
  obtain ⟨so1, so2⟩ := s.good htr.ok
  have sl := s.less hP.F hP.L htr.ok
  have rl := HR.out.run.rt.less hP.F hP.L ht.ok
  obtain ⟨k1, k2, k3, k4, k5⟩ := gv_kn n1 { v1 with kn := none } [u]
  obtain ⟨v4, hv4⟩ : ∃ v4, v4 = gv n1 { v1 with kn := none } [u] := ⟨_, rfl⟩
  obtain ⟨T4, hT4⟩ : ∃ T4 : Tx, T4 = { T1 with gv := gv4, gone := T1.gone ++ v1.kn.toList.map Pt.a } := ⟨_, rfl⟩
  have hok4 := gv_ok so1 hgv
  have hpt4 := gv_pot [u] so1
  have hmu4 := gv_mu [u] so1
  have hsh4 := gv_shf [u] rfl (s.shf htr.sh)
  have had := s.addrs
  have had4 := gv_addrs n1 { v1 with kn := none } [u]
  rw [← hv4] at mv k1 k2 k3 k4 k5 hok4 hpt4 hmu4 hsh4 had4
  rw [← hT4] at mv
  rw [List.length_singleton] at hpt4 hmu4
  have hn8 := htr.n8
  have hmul : 2 * (n1 + 1) * 1 ≤ 18 := by omega
  have h1 := rl.pot
  have h2 := rl.mu
  have h3 := sl.pot
  have h4 := sl.mu
  have h5 := len_le_sum HR.out.run.rt.pos
  have h6 := HR.out.run.fl
  have hT4f : T4.fl = T1.fl := by rw [hT4]
  have hT4g : T4.gone = T1.gone ++ v1.kn.toList.map Pt.a := by rw [hT4]
  have hT4w : T4.wr = T1.wr := by rw [hT4]
  have hT4l : T4.le = T1.le := by rw [hT4]
  have hal := had.length_eq
  rw [← had4] at hal had
  rw [List.length_append] at hal
  have hg0 := htr.gone
  have hb4 : v4.b = v1.b := k3
  have hok : TrOk K n1 w4 v4 T4 := ⟨by rw [hb4]; exact mv.cx, mv.mem, mv.nodup, hok4, hsh4, by omega, by rw [hT4w]; exact htr.wr, by rw [hT4g, List.length_append]; omega, by rw [hT4f, h6]; simp only [List.sum_nil] at h4; omega⟩
  have HTP := topT w4 hP hok (by rw [k5]; exact hld) k1
  rw [← Htb.out] at HTP
  refine HTP.mono ?_
  rintro e w5 ⟨rfl, n5, v5, T5, g5, l5, td⟩
  refine ⟨rfl, Or.inl ⟨rfl, n5, v5, T5, g1 ++ (v1.kn.toList.map Pt.a ++ g5), l1 ++ l5, ?_⟩⟩
  have tl := td.run.rt.less hP.F hP.L hok.ok
  have z1 := HR.out.run.keep.size
  have z2 := hW3.size
  have z3 := mv.keep.size
  have K34 : Keep (fun x => Own K T1 x ∨ x ∈ blocks n1 v1) w3 w4 := (Keep.of_below hW3).trans' mv.keep
  have K35 : Keep (fun x => Own K T1 x ∨ x ∈ blocks n1 v1) w3 w5 := K34.trans td.run.keep fun x hx => by
   rcases hx with (q | q | q) | q
   ·exact Or.inl (Or.inl (Or.inl q))
   ·exact Or.inl (Or.inl (Or.inr (Or.inl q)))
   ·rcases mv.gvb x q with k | k
    ·exact Or.inl (Or.inl (Or.inr (Or.inr k)))
    ·exact Or.inr (by omega)
   ·rcases mv.fresh x q with k | k
    ·exact Or.inl (Or.inr k)
    ·exact Or.inr (by omega)
  refine ⟨hok.next hP td.run, fun q => ?_, perm3 HR.out.run.rt.addrs had td.run.rt.addrs, fun b hb => ?_, fun x hx => ?_, HR.out.run.keep_trans K35, by rw [td.run.gone, hT4g, HR.out.run.gone, List.append_assoc, List.append_assoc], by rw [td.run.fl, hT4f, h6, List.length_append]; omega, by rw [td.run.le, hT4l, HR.out.run.le, List.foldl_append], Nat.le_trans td.run.wr (by rw [hT4w]; exact HR.out.run.wr), ?_, ?_, ?_, fun hg => ?_, fun hq => td.run.rt.pso (by rw [hv4]; exact gv_pso _ (kn_pso (HR.out.run.rt.pso hq)))⟩
  ·rw [(td.run.rt.good hok.ok).2 q, hv4, gv_den so1 hgv q, so2 q (withinB_iff.2 ⟨bl_nil q, Or.inl rfl⟩), (HR.out.run.rt.good ht.ok).2 q]
  ·rcases td.run.fresh b hb with k | k
   ·rcases mv.fresh b k with k | k
    ·exact HR.out.run.fresh b k
    ·exact Or.inr (by omega)
   ·exact Or.inr (by omega)
  ·rcases td.run.gvb x hx with k | k
   ·rcases mv.gvb x k with k | k
    ·exact HR.out.run.gvb x k
    ·exact Or.inr (by omega)
   ·exact Or.inr (by omega)
  ·have := tl.pot; omega
  ·have := tl.mu
   rw [List.sum_append]
   simp only [List.sum_nil] at h4
   omega
  ·have e1 := tl.om
   have e2 := rl.om
   have e3 := sl.om
   have e4 := gv_om [u] so1
   rw [← hv4, List.length_singleton] at e4
   rw [List.sum_append]
   simp only [List.sum_nil] at e3
   have e5 : n1 * 1 ≤ n5 := by
    cases n1 with
    | zero => omega
    | succ m =>
     have := (td.up (by rw [hv4]; exact withL_pos (so1.usr) u)).1
     omega
   omega
  ·rcases HR.out.gd hg with q | ⟨q1, q2⟩
   ·exact Or.inl q
   ·have hgk := gk_give (u := u) htr.ok q1 (by rw [← HU.out.2.1]; exact hwt)
    rw [← hv4] at hgk
    rcases td.gd hgk with q | q
    ·rw [hT4w] at q
     exact Or.inl (Nat.lt_of_lt_of_le q HR.out.run.wr)
    ·refine Or.inr ⟨q, fun m hm => ?_⟩
     rcases List.mem_append.1 hm with hm | hm
     ·exact q2 m hm
     ·exact td.big m hm)
 go_upto_region 9 with (fail)
 go_region_law (first | (go_simp; go_at_call 40; refine HG.out.mono ?_; rintro e w4 ⟨rfl, gv4, mv4⟩; have HM4 := Lib.hid mv4; clear mv4))
 all_goals
  go_wp2_with fail
  refine (HF.out w4 gv4 HM4.out).mono ?_
  rintro e w5 ⟨rfl, hA⟩
  have HA := Lib.hid hA
  clear hA
  go_wp2_with fail
  go_ret
  show ApOut K n w v T u (.returned (.int .i64 0)) w5
  exact HA.out
open Go.RowKit
attribute [local go_sem ↓] Go.wp_at_zero Go.wp_at_succ
theorem gv_nil (n : Nat) (v : Vt) : gv n v [] = v := by cases v; cases n <;> rfl
theorem enG_nil (n : Nat) (v : Vt) : enG n v [] = en n v := by unfold enG; rw [gv_nil]
def ScanOut (X : Kx) (n : Nat) (w : World) (v : Vt) (T : Tx) (slo shi : List UInt8) (most : Int) (e : Ending) (w' : World) : Prop :=
 ∃ wr', wr' ≤ T.wr ∧ TrOk X n w' v { T with wr := wr' } ∧ Keep (fun x => x = X.sb) w w' ∧ ((e = .returned (.tuple #[.slice none 0 0, .int .i64 10]) ∧ 0 < T.wr) ∨ ∃ oa oc, e = .returned (.tuple #[.slice oa (accP most slo shi [] (en n v)).length oc, .int .i64 0]) ∧ EnOwn w' (.slice oa (accP most slo shi [] (en n v)).length oc) (accP most slo shi [] (en n v)) ∧ ∀ g, (Value.slice oa (accP most slo shi [] (en n v)).length oc).ownBlock = some g → w.heap.size ≤ g)
theorem TrOk.mem_load {X : Kx} {n : Nat} {w w' : World} {v : Vt} {T : Tx} (t : TrOk X n w v T) (hk : Keep (fun x => x = X.sb) w w') : Mem w' n v :=
 t.m.keep hk (fun b e => by rw [show b = X.sb from e]; exact (t.c.soft X.sb (Or.inr (Or.inl rfl))).1) fun b hb e => by
  obtain ⟨cur, hc⟩ := t.m.cells b hb
  rw [show b = X.sb from e] at hc
  exact absurd (hc.one t.c.sh.row).1 (by decide)
theorem TrOk.load {X : Kx} {n : Nat} {w w' : World} {v : Vt} {T : Tx} (t : TrOk X n w v T) {wr' : Nat} (hw : wr' ≤ T.wr) (c : CAt w' X v.b (n + 1) { T with wr := wr' }) (hk : Keep (fun x => x = X.sb) w w') : TrOk X n w' v { T with wr := wr' } :=
 ⟨c, t.mem_load hk, t.nd, t.ok, t.sh, t.pot, Nat.le_trans hw t.wr, t.gone, t.fl⟩
theorem scan_any {X : Kx} {n : Nat} {v : Vt} {T : Tx} (slo shi : List UInt8) (most : Int) (w : World) (t : TrOk X n w v T) (hN : Near X.f) (hm : most ≤ 1000) :
  Calls Tryz.prog 17 #[.pointer (some ⟨X.tb, 0, none⟩), .string (S slo), .string (S shi), .int .i64 most] w fun e w' => ScanOut X n w v T slo shi most e w' := by
 have HT := Lib.hid t.c.tr
 have HO := Lib.hid t
 have hn8 := t.n8
 obtain ⟨tb, htb⟩ : ∃ tb, tb = X.tb := ⟨_, rfl⟩
 rw [← htb] at HT
 have HTB := Lib.hid htb
 rw [← htb]
 clear t htb
 go_enter Tryz.func17, Tryz.ntmps17
 go_upto_region 4 with (fail)
 obtain ⟨W, hW⟩ : ∃ W, W = w.alloc (.cells #[.pointer (some ⟨tb, 0, none⟩), .string (S slo), .string (S shi), .int .i64 most, .slice none 0 0] 115) := ⟨_, rfl⟩
 have HS := Lib.hid (show ScR W w.heap.size X.tb slo shi most [] none 0 from ⟨by rw [hW, ← HTB.out]; exact RowIs.new _ _ [.pointer (some ⟨tb, 0, none⟩), .string (S slo), .string (S shi), .int .i64 most, .slice none 0 0], EnOwn.nil _⟩)
 have hX : Below w.heap.size w W := by rw [hW]; go_grown
 rw [← hW]
 clear hW
 have HT1 := Lib.hid (HT.out.on hX)
 have c4 := HT1.out.c4
 have c5 := HT1.out.c5
 have hd : Below W.heap.size W W.drew := below_drew' (Below.refl _ _)
 have hXd := hX.trans (hd.mono hX.size)
 have HVL := Lib.hid (show Calls Tryz.prog 43 #[.pointer (some ⟨w.heap.size, 0, none⟩), .pointer (some ⟨v.b, 0, none⟩), .int .i64 ((n + 1 : Nat) : Int), .agg #[.slice none 0 0]] W.drew (fun e w' => ∃ er : Int, e = .returned (.int .i64 er) ∧ Hid (ScPost X v.b (n + 1) T w.heap.size slo shi most [] none 0 (en n v) W.drew e w')) from by
  have t := HO.out
  refine (vertex_any n X v.b (n + 1) T v [] [] w.heap.size slo shi most [] none 0 none 0 0 [] W.drew _ ⟨t.c.on hXd, fun w2 hk => ?_, t.ok, t.sh, hN, ?_, t.wr, HS.out.on hd, ⟨List.Pairwise.nil, fun u hu => by simp at hu⟩, hm, by simp⟩ ⟨_, rfl, SlU.nil _⟩ (by omega) (by omega)).mono ?_
  ·have hk2 : Keep (fun x => x = X.sb) w w2 := (Keep.of_below hXd).trans hk (fun x q => by
    rcases q with q | q | q
    ·exact Or.inl q
    ·exact Or.inr (by rw [q]; exact Nat.le_refl _)
    ·simp [ownB, Value.ownBlock] at q)
   exact t.mem_load hk2
  ·have hp0 := Nat.le_trans (Nat.le_add_right (pot n v) (2 ^ (n + 1))) t.pot
   show pot n v + 0 ≤ 1000
   omega
  ·rintro e w' ⟨wr', h1, h2, h3, h4⟩
   rw [enG_nil] at h4
   rcases h4 with ⟨rfl, h0⟩ | ⟨rfl, h0⟩
   ·exact ⟨10, rfl, Lib.hid ⟨wr', h1, h2, h3, Or.inl ⟨rfl, h0⟩⟩⟩
   ·exact ⟨0, rfl, Lib.hid ⟨wr', h1, h2, h3, Or.inr ⟨rfl, h0⟩⟩⟩)
 go_region_law (first | (go_simp; go_at_call 43; refine HVL.out.mono ?_; rintro e w4 ⟨er, rfl, H4⟩))
 all_goals
  have hfin : ∀ wr', wr' ≤ T.wr → CAt w4 X v.b (n + 1) { T with wr := wr' } → Keep (S3 X.sb w.heap.size (ownB none 0 0)) W.drew w4 → TrOk X n w4 v { T with wr := wr' } ∧ Keep (fun x => x = X.sb) w w4 := fun wr' h1 h2 h3 => by
   have hk : Keep (fun x => x = X.sb) w w4 := (Keep.of_below hXd).trans h3 (fun x q => by
    rcases q with q | q | q
    ·exact Or.inl q
    ·exact Or.inr (by rw [q]; exact Nat.le_refl _)
    ·simp [ownB, Value.ownBlock] at q)
   exact ⟨HO.out.load h1 h2 hk, hk⟩
  have HFI := Lib.hid hfin
  have HXD := Lib.hid hXd
  clear hfin hXd hd hX c4 c5
  obtain ⟨wr', h1, h2, h3, ⟨he, h0⟩ | ⟨he, oa', oc', s4, hg4⟩⟩ := H4.out
  ·obtain rfl : er = 10 := by simpa using he
   have HR := Lib.hid (And.intro h1 (And.intro h0 (HFI.out wr' h1 h2 h3)))
   clear h1 h2 h3 he h0 H4
   go_wp2_with fail
   go_returns
   show ScanOut X n w v T slo shi most (.returned (.tuple #[.slice none 0 0, .int .i64 10])) w4
   exact ⟨wr', HR.out.1, HR.out.2.2.1, HR.out.2.2.2, Or.inl ⟨rfl, HR.out.2.1⟩⟩
  ·obtain rfl : er = 0 := by simpa using he
   have HR := Lib.hid (And.intro h1 (And.intro (HFI.out wr' h1 h2 h3) (And.intro s4 hg4)))
   have k4 := s4.c4
   clear h1 h2 h3 he s4 hg4 H4
   go_wp2_with fail
   go_returns
   show ScanOut X n w v T slo shi most (.returned (.tuple #[.slice oa' (accP most slo shi [] (en n v)).length oc', .int .i64 0])) w4
   refine ⟨wr', HR.out.1, HR.out.2.1.1, HR.out.2.1.2, Or.inr ⟨oa', oc', rfl, HR.out.2.2.1.own, fun g e => ?_⟩⟩
   rcases HR.out.2.2.2 g e with q | q
   ·simp [ownB, Value.ownBlock] at q
   ·exact Nat.le_trans HXD.out.size q
end Go.Proofs.YtafciefjlkdecaaGreat
namespace Go.Proofs.YtafciefjlkdecaaGreat
open Go.RowKit
structure LawSt (K : Kx) (n : Nat) (w : World) (v : Vt) (T : Tx) (w0 : World) : Prop where
 ok : TrOk K n w v T
 lo : ∀ x, (Own K T x ∨ x ∈ blocks n v) → w0.heap.size ≤ x
 b : Below w0.heap.size w0 w
section
variable {K : Kx} {n n1 : Nat} {w w0 w1 : World} {v v1 : Vt} {T T1 : Tx} {u : Upd} {g : List Int} {l : List Nat}
theorem LawSt.apply (s : LawSt K n w v T w0) (a : AP K n w v T u n1 w1 v1 T1 g l) : LawSt K n1 w1 v1 T1 w0 :=
 ⟨a.ok, fun x hx => by
  have hz := s.b.size
  rcases hx with (q | q | q) | q
  ·exact s.lo x (Or.inl (Or.inl q))
  ·exact s.lo x (Or.inl (Or.inr (Or.inl q)))
  ·rcases a.gvb x q with k | k
   ·exact s.lo x (Or.inl (Or.inr (Or.inr k)))
   ·omega
  ·rcases a.fresh x q with k | k
   ·exact s.lo x (Or.inr k)
   ·omega, s.b.trans (a.keep.below s.b.size fun x hx => s.lo x hx)⟩
theorem LawSt.load (s : LawSt K n w v T w0) {wr' : Nat} (t : TrOk K n w1 v { T with wr := wr' }) (hk : Keep (fun x => x = K.sb) w w1) : LawSt K n w1 v { T with wr := wr' } w0 :=
 ⟨t, fun x hx => s.lo x hx, s.b.trans (hk.below s.b.size fun x hx => s.lo x (Or.inl (Or.inr (Or.inl hx))))⟩
theorem LawSt.on (s : LawSt K n w v T w0) (hb : Below w.heap.size w w1) : LawSt K n w1 v T w0 := ⟨s.ok.on hb, s.lo, s.b.trans (hb.mono s.b.size)⟩
structure Inv (K : Kx) (n : Nat) (w : World) (v : Vt) (T : Tx) (w0 : World) (j : Nat) : Prop where
 st : LawSt K n w v T w0
 pot : pot n v + 2 ^ (n + 1) ≤ 4 + j
 fl : T.fl + mu n v ≤ 2 + 20 * j
 gd : Gd K n v
 wr : T.wr = 0
theorem Inv.on {j : Nat} (s : Inv K n w v T w0 j) (hb : Below w.heap.size w w1) : Inv K n w1 v T w0 j := ⟨s.st.on hb, s.pot, s.fl, s.gd, s.wr⟩
theorem Inv.apply {j : Nat} (s : Inv K n w v T w0 j) (hB : 1 ≤ K.B / K.F) (a : AP K n w v T u n1 w1 v1 T1 g l) : Inv K n1 w1 v1 T1 w0 (j + 1) := by
 have h0 := s.wr
 rcases a.gd s.gd with q | ⟨g1, g2⟩
 ·omega
 ·have h1 := len_le_sum (l := l) fun m hm => Nat.lt_of_lt_of_le hB (g2 m hm)
  have h2 := a.mu
  have h3 := a.fl
  have h4 := s.fl
  have h5 := a.pot
  have h6 := s.pot
  have h7 := a.wr
  exact ⟨s.st.apply a, by omega, by omega, g1, by omega⟩
theorem inv_ready {j : Nat} (s : Inv K n w v T w0 j) (hj : j ≤ 200) : pot n v + 2 ^ (n + 1) + 1 ≤ 800 ∧ T.fl + mu n v + 20 ≤ 1000000000000 := by
 have h1 := s.pot
 have h2 := s.fl
 omega
theorem Inv.walk {j : Nat} (s : Inv K n w v T w0 j) (hP : PlanOk K) (hB : 1 ≤ K.B / K.F) (hj : j ≤ 200) (hu : Tm u) :
  Calls Tryz.prog 13 #[.pointer (some ⟨K.tb, 0, none⟩), .agg #[.int .u8 u.kind, .string (S u.key), .string (S u.val), .int .u64 u.delta]] w fun e w' => e = .returned (.int .i64 0) ∧ ∃ n1 v1 T1 g l, AP K n w v T u n1 w' v1 T1 g l ∧ Inv K n1 w' v1 T1 w0 (j + 1) := by
 obtain ⟨h1, h2⟩ := inv_ready s hj
 refine (applyT u w hP s.st.ok hu h1 h2).mono ?_
 rintro e w' (⟨rfl, n1, v1, T1, g, l, a⟩ | ⟨-, h0, -⟩)
 ·exact ⟨rfl, n1, v1, T1, g, l, a, s.apply hB a⟩
 ·rw [s.wr] at h0
  exact absurd h0 (Nat.lt_irrefl 0)
end
abbrev newK (tb sb mb F B L : Nat) : Kx := ⟨tb, sb, mb, F, B, L, 0, 0, fun _ => none, 0⟩
abbrev newV (vb : Nat) : Vt := ⟨vb, true, true, none, [], [], []⟩
abbrev newT : Tx := ⟨.slice none 0 0, [], 0, 0, 0⟩
theorem Inv.new {w0 w : World} {tb vb sb mb F B L : Nat} (ht : TrAt w tb F B L (ldV sb) vb 1 (.slice none 0 0) 0 0) (hv : VxAt w vb false 0 0 0 true (.slice none 0 0) (.slice none 0 0) (.slice none 0 0) (.slice none 0 0)) (hs : ShelfAt w sb mb 0 0 (fun _ => none) 0 0) (hb : Below w0.heap.size w0 w) (h1 : w0.heap.size ≤ tb) (h2 : w0.heap.size ≤ vb) (h3 : w0.heap.size ≤ sb) : Inv (newK tb sb mb F B L) 0 w (newV vb) newT w0 0 := by
 refine ⟨⟨⟨⟨ht, GnAt.nil w, hs⟩, ⟨rfl, Or.inl ⟨rfl, 0, 0, 0, none, 0, hv, fun p hp => (by cases hp), _, rfl, none, 0, rfl, Or.inl rfl, by simp⟩⟩, ?_, ⟨rfl, rfl, List.Pairwise.nil, fun e he => by simp at he⟩, fun p hp => (by cases hp), ?_, ?_, ?_, ?_⟩, fun x hx => ?_, hb⟩, ?_, ?_, Nat.zero_le _, rfl⟩
 ·rw [blocks_zero _ rfl]; simp
 ·show dist2 0 + 2 ^ (0 + 1) ≤ 800; decide
 ·show 0 ≤ 1000; omega
 ·show 0 + 0 ≤ 1000000; omega
 ·show 0 + dist2 0 ≤ 1000000000000; decide
 ·rcases hx with (q | q | q) | q
  ·have q' : x = tb := q
   omega
  ·have q' : x = sb := q
   omega
  ·have q' : (Value.slice none 0 0).ownBlock = some x := q
   simp [Value.ownBlock] at q'
  ·rw [blocks_zero _ rfl, List.mem_singleton] at q
   have q' : x = vb := q
   omega
 ·show dist2 0 + 2 ^ (0 + 1) ≤ 4 + 0; decide
 ·show 0 + dist2 0 ≤ 2 + 20 * 0; decide
theorem plan_new {tb sb mb F B L : Nat} (hF : 3 ≤ F) (hF2 : F ≤ 1000) (hB : 1 ≤ B) (hB2 : B ≤ 1000) (hL : 3 ≤ L) (hL2 : L ≤ 1000) : PlanOk (newK tb sb mb F B L) := ⟨hF, hF2, hB, hB2, hL, hL2, fun _ h => absurd rfl h⟩
open Go.RowKit
attribute [local go_sem ↓] Go.wp_at_zero Go.wp_at_succ
def kEnt : List Ent := [⟨[107], [118]⟩]
theorem kEnt_on : onAll [] [⟨1, [107], [118], 0⟩] = kEnt := by rfl
theorem kEnt_parse : parseE (entText kEnt) = (kEnt, 0) := by rfl
theorem kEnt_text : (entText kEnt).length = 4 := by rfl
theorem kEnt_fine : FineE kEnt := by intro e he; simp [kEnt] at he; subst he; simp
theorem kEnt_rise : Rising Ent.key kEnt := by simp [Rising, kEnt]
theorem kEnt_k : lookE kEnt [107] = some [118] := by rfl
theorem kEnt_z : lookE kEnt [122] = none := by rfl
theorem kEnt_chk : (Upd.mk 1 [107] [118] 0).check = 0 := by rfl
theorem fetchLeaf_shelf {tb b sb mb n sz : Nat} {F B L : Int} {root : Nat} {h' : Int} {gone : Value} {fl le : Int} {kn : Bool} {lf cs us ks : Value} {f : Int → Option Blk} {gen : Nat} (at' : Nat) (bk : Blk) (ps : Nat) (w : World)
  (ht : TrAt w tb F B L (.func (.func 11) #[.pointer (some ⟨sb, 0, none⟩)] #[]) root h' gone fl le) (hv : VxAt w b kn at' bk.gen ps false lf cs us ks) (hs : ShelfAt w sb mb n sz f gen 0) (ha : at' < 1000000) (hf : f (at' : Int) = some bk) (hk : bk.kind = 4) (hp : bk.pay.length ≤ 100000) (es : List Ent) (hpe : parseE bk.pay = (es, 0)) : FetchLeaf tb b es true w := by
 intro w1 hX
 have hl : LoadIs 11 #[.pointer (some ⟨sb, 0, none⟩)] #[] at' bk.gen ps bk.kind bk.pay 0 w1 :=
  ⟨enters_of Tryz.func11 (by kernel_rfl) rfl, fun w2 hX2 => by
   have := load_yes at' ps bk w2 ((hs.on hX).on hX2) ha hf
   exact this⟩
 refine (fetch_leaf bk.kind bk.pay 1 w1 (ht.on hX) (hv.on hX) hl hk rfl hp 0 es hpe).mono ?_
 rintro e w2 ⟨(⟨-, b', a, c, rfl, -, hv2, hb2⟩ | ⟨h0, -⟩), hX2⟩
 ·exact ⟨⟨b', true, at', bk.gen, ps, a, c, _, _, _, rfl, hv2, hb2⟩, hX2⟩
 ·exact absurd rfl h0
theorem wakes21 (w : World) : Calls Tryz.prog 12 #[] w fun e w' => e = .returned (.bool true) ∧ Below w.heap.size w w' := by
 have hmm := @run_makeMap Tryz.prog
 have s1 : (⟨#[107]⟩ : ByteArray) = S [107] := rfl
 have s2 : (⟨#[118]⟩ : ByteArray) = S [118] := rfl
 have s3 : (⟨#[122]⟩ : ByteArray) = S [122] := rfl
 go_enter Tryz.func12, Tryz.ntmps12
 go_upto_region 2 with (fail)
 obtain ⟨W, hW⟩ : ∃ W, W = (w.alloc (.map #[] 0)).alloc (.cells #[.map (some w.heap.size), .int .u64 0, .int .i64 0] 27) := ⟨_, rfl⟩
 have hb0 : Below w.heap.size w W := by rw [hW]; exact ((Below.refl _ w).alloc (Nat.le_refl _) _).alloc (by simp) _
 have hS : ShelfAt W (w.heap.size + 1) w.heap.size 0 0 (fun _ => none) 0 0 := by
  rw [hW]
  exact ⟨RowIs.new' _ _ _ _ (by simp), (ShMap.made w).on ((Below.refl _ _).alloc (Nat.le_refl _) _)⟩
 rw [← hW]
 clear hW
 obtain ⟨sb, hsb⟩ : ∃ sb, sb = w.heap.size + 1 := ⟨_, rfl⟩
 obtain ⟨mb, hmb⟩ : ∃ mb, mb = w.heap.size := ⟨_, rfl⟩
 rw [← hsb] at hS ⊢
 rw [← hmb] at hS
 have hsb' : w.heap.size ≤ sb := by omega
 have hmb' : w.heap.size ≤ mb := by omega
 clear hsb hmb
 replace hS := Lib.hid hS
 go_wp2_with fail
 go_wp2_with fail
 refine (thread (small_any W) W.heap.size W (Below.refl _ _) (Nat.le_refl _)).mono ?_
 rintro e w1 ⟨rfl, hX_w1, -, -, -, hz_w1⟩
 replace hS := Lib.hid (hS.out.kept hX_w1 (Nat.le_refl _))
 replace hb0 := hb0.trans (hX_w1.mono hb0.size)
 clear hX_w1
 go_wp2_with fail
 refine (new_any 3 4 3 (.func 11) #[.pointer (some ⟨sb, 0, none⟩)] #[] w1).mono ?_
 rintro e w2 ⟨rfl, ht2, hv2, hX2⟩
 obtain ⟨tb, htb⟩ : ∃ tb, tb = w1.heap.size + 1 + 1 := ⟨_, rfl⟩
 obtain ⟨b, hbb⟩ : ∃ b, b = w1.heap.size + 1 := ⟨_, rfl⟩
 rw [← htb] at ht2 ⊢
 rw [← hbb] at ht2 hv2
 have htb' : w1.heap.size ≤ tb := by omega
 have hbb' : w1.heap.size ≤ b := by omega
 clear htb hbb
 have hT2 := Lib.hid ht2
 have hV2 := Lib.hid hv2
 have HS2 := Lib.hid (hS.out.on hX2)
 have hb2 := hb0.trans (hX2.mono hb0.size)
 have hbx := hb0.size
 have hsl := hS.out.row.lt
 have hml := hS.out.map.lt
 clear ht2 hv2 hX2 hS hb0
 go_upto_region 3 with (fail)
 rw [s1, s2]
 go_wp2_with fail
 refine (apply_leaf 1 [107] [118] 0 w2 hT2.out hV2.out (es := []) ⟨_, rfl, _, _, rfl, Or.inl rfl, by simp, by simp, fun _ => rfl⟩ (by simp) (by simp [Rising]) (by intro e he; simp at he) (by decide) (by decide) kEnt_chk (by rw [kEnt_on]; simp [kEnt])).mono ?_
 rintro e w3 ⟨rfl, ⟨a3, c3, hv3, hb3⟩, ht3, hK3⟩
 rw [kEnt_on] at hv3 hb3
 have hw1 : sb < w1.heap.size ∧ mb < w1.heap.size := ⟨hsl, hml⟩
 have HS3 := Lib.hid (show ShelfAt w3 sb mb 0 0 (fun _ => none) 0 0 from ⟨hK3.row HS2.out.row (by show ¬ sb = b; omega), by
  have hh := HS2.out.map
  obtain ⟨D, ⟨es0, clock0, hh1, hh2⟩, hh3⟩ := hh
  exact ⟨D, ⟨es0, clock0, (hK3.block mb HS2.out.map.lt (by show ¬ mb = b; omega)).trans hh1, hh2⟩, hh3⟩⟩)
 have hKa := (Keep.of_below (S := fun x => w.heap.size ≤ x) hb2).trans hK3 (fun x hx => Or.inl (by show w.heap.size ≤ x; have : x = b := hx; omega))
 have hT3 := Lib.hid ht3
 have hV3 := Lib.hid hv3
 have HB3 := Lib.hid hb3
 clear ht3 hv3 hb3 hK3 hb2 HS2 hT2 hV2
 go_upto_region 4 with (fail)
 go_wp2_with fail
 refine (commit_leaf 0 w3 hT3.out hV3.out HB3.out rfl (by simp [kEnt]) kEnt_fine HS3.out (by decide) rfl (fun j hj => by omega) (by decide) (by decide)).mono ?_
 rintro e w4 ⟨rfl, hs4, ⟨nb, hnb, ht4, hv4⟩, hK4⟩
 have hKb := hKa.trans hK4 (fun x hx => Or.inl (by show w.heap.size ≤ x; have : x = sb ∨ x = mb ∨ x = tb := hx; omega))
 have hT4 := Lib.hid ht4
 have hV4 := Lib.hid hv4
 have HS4 := Lib.hid hs4
 clear ht4 hv4 hs4 hK4 hT3 hV3 HB3 HS3 hKa
 go_upto_region 5 with (fail)
 obtain ⟨W5, hW5⟩ : ∃ W5, W5 = w4.alloc (.cells #[.int .i64 0, .int .u64 1, .int .u32 0] 54) := ⟨_, rfl⟩
 have hX5 : Below w4.heap.size w4 W5 := by rw [hW5]; exact (Below.refl _ w4).alloc (Nat.le_refl _) _
 have hP5 := Lib.hid (show RwAt W5 54 w4.heap.size [.int .i64 0, .int .u64 1, .int .u32 0] from ⟨by rw [hW5]; exact RowIs.new w4 _ _⟩)
 rw [← hW5]
 clear hW5
 have hT5 := Lib.hid (hT4.out.on hX5)
 have hV5 := Lib.hid (hV4.out.on hX5)
 have HS5 := Lib.hid (HS4.out.on hX5)
 have hK5 := hKb.on hX5
 clear hT4 hV4 HS4 hKb hX5
 have p0 : W5.cell? ⟨w4.heap.size, 0, none⟩ = some (.int .i64 0) := hP5.out.cell 0
 have p1 : W5.cell? ⟨w4.heap.size, 1, none⟩ = some (.int .u64 1) := hP5.out.cell 1
 have p2 : W5.cell? ⟨w4.heap.size, 2, none⟩ = some (.int .u32 0) := hP5.out.cell 2
 go_cut [7, 8] (fun s7 s8 wx => ∃ ub vb, s7 = .pointer (some ⟨ub, 0, none⟩) ∧ s8 = .int .i64 0 ∧ TrAt wx ub 3 4 3 (.func (.func 11) #[.pointer (some ⟨sb, 0, none⟩)] #[]) vb 1 (.slice none 0 0) 0 0 ∧ VxAt wx vb true 0 1 0 false (.slice none 0 0) (.slice none 0 0) (.slice none 0 0) (.slice none 0 0) ∧ Below W5.heap.size W5 wx)
 case first =>
  go_region_law (first | (go_simp; go_at_call 18; refine (thread (small_any _) W5.heap.size W5 (by go_grown) (by go_grown)).mono ?_; rintro e w6 ⟨rfl, hX6, -, -, -, hz6⟩; have q0 := kept_cell hX6 p0; have q1 := kept_cell hX6 p1; have q2 := kept_cell hX6 p2) | (go_simp; go_at_call 22; refine (open_some 3 4 3 (.func 11) #[.pointer (some ⟨sb, 0, none⟩)] #[] 0 1 0 1 _ (by decide) (by decide)).mono ?_; rintro e w7 ⟨rfl, ht7, hv7, hX7⟩))
  all_goals
   have hX := hX6.trans (hX7.mono hz6)
   go_wp2_with fail
   go_meet
   exact ⟨_, _, rfl, rfl, ht7, hv7, hX⟩
 case rest =>
 obtain ⟨ub, vb, rfl, rfl, hu, hv, hX⟩ := hcut
 obtain ⟨w7, hw7⟩ : ∃ w7, w7 = wc := ⟨_, rfl⟩
 subst hw7
 have hU := Lib.hid hu
 have hVu := Lib.hid hv
 have hT := Lib.hid (hT5.out.on hX)
 have hV := Lib.hid (hV5.out.on hX)
 have HS := Lib.hid (HS5.out.on hX)
 have hK := hK5.on hX
 clear hu hv hX hT5 hV5 HS5 hK5 hP5 p0 p1 p2
 go_upto_region 6 with (fail)
 rw [s1]
 go_wp2_with fail
 refine (get_leaf [107] kEnt true w7 hU.out (fetchLeaf_shelf (n := 1) (sz := 1) 0 ⟨4, entText kEnt, 1⟩ 0 w7 hU.out hVu.out HS.out (by decide) (by simp) rfl (by rw [kEnt_text]; decide) kEnt kEnt_parse) kEnt_rise (by simp [kEnt])).mono ?_
 rintro e w8 ⟨rfl, hX8⟩
 have hT8 := Lib.hid (hT.out.on hX8)
 have hV8 := Lib.hid (hV.out.on hX8)
 have HS8 := Lib.hid (HS.out.on hX8)
 have hK8 := hK.on hX8
 clear hX8 hU hVu hT hV HS hK
 rw [kEnt_k]
 simp only [Option.getD_some, Option.isSome_some, if_true]
 go_upto_region 7 with (fail)
 rw [s3]
 go_wp2_with fail
 refine (get_leaf [122] kEnt true w8 hT8.out (fetchLeaf_shelf (n := 1) (sz := 1) 0 ⟨4, entText kEnt, 1⟩ 0 w8 hT8.out hV8.out HS8.out (by decide) (by simp) rfl (by rw [kEnt_text]; decide) kEnt kEnt_parse) kEnt_rise (by simp [kEnt])).mono ?_
 rintro e w9 ⟨rfl, hX9⟩
 have hT9 := Lib.hid (hT8.out.on hX9)
 have HS9 := Lib.hid (HS8.out.on hX9)
 have hK9 := hK8.on hX9
 clear hX9 hT8 hV8 HS8 hK8
 rw [kEnt_z]
 simp only [Option.getD_none, Option.isSome_none, if_true]
 go_upto_region 8 with (fail)
 have c0 := HS9.out.c0
 have hl := HS9.out.map.len 3
 have hbk : w.heap.size ≤ w9.heap.size := hK9.size
 go_wp2_with fail
 refine (thread (height_any w9 hT9.out) w9.heap.size w9 (Below.refl _ _) (Nat.le_refl _)).mono ?_
 rintro e w10 ⟨rfl, hX10, -, -, -, hz10⟩
 have c0' := (HS9.out.on hX10).c0
 have hl' := (HS9.out.on hX10).map.len 3
 have hB : Below w.heap.size w w10 := (hK9.on hX10).below (Nat.le_refl _) (fun x hx => hx)
 go_wp2_with fail
 go_ret
 exact ⟨rfl, hB⟩
end Go.Proofs.YtafciefjlkdecaaGreat
