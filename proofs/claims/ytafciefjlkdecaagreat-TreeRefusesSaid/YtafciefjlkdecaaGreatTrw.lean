/-
  The walk of TreeRefuses.
-/
import Derived.Test.YtafciefjlkdecaaGreatTrx
import Derived.Deep.CutRange
namespace Go.Proofs.YtafciefjlkdecaaGreat
open Go.RowKit
attribute [local go_sem ↓] Go.wp_at_zero Go.wp_at_succ

theorem one_on (key val : List UInt8) : (onAll [] [⟨1, key, val, 0⟩]).length ≤ 1 := onE_len (l := []) (by simp [Rising]) ⟨1, key, val, 0⟩

set_option maxRecDepth 100000 in
set_option maxHeartbeats 4000000 in
theorem treeRefuses_walk (h : Int) (b0 b1 u0 u1 : List UInt8) (w : World) :
    Calls Tryz.prog 9 #[.int .i64 h, .agg #[.string (S b0), .string (S b1)], .agg #[.string (S u0), .string (S u1)]] w fun e w' => e = .returned (.bool true) ∧ Below w.heap.size w w' := by
  go_enter Tryz.func9, Tryz.ntmps9
  go_upto_region 1 with (fail)
  obtain ⟨W, hW⟩ : ∃ W, W = (w.alloc (.cells #[.string (S b0), .string (S b1)] 91)).alloc (.cells #[.string (S u0), .string (S u1)] 91) := ⟨_, rfl⟩
  have hX : Below w.heap.size w W := by rw [hW]; exact ((Below.refl _ w).alloc (Nat.le_refl _) _).alloc (by simp) _
  have hB := Lib.hid (show RwAt W 91 w.heap.size [.string (S b0), .string (S b1)] from ⟨by rw [hW]; exact (RowIs.new w _ _).alloc _⟩)
  have hU := Lib.hid (show RwAt W 91 (w.heap.size + 1) [.string (S u0), .string (S u1)] from ⟨by rw [hW]; exact RowIs.new' _ _ _ _ (by simp)⟩)
  have hWs : w.heap.size + 2 ≤ W.heap.size := by rw [hW]; simp
  rw [← hW]
  clear hW
  have c0 := hB.out.cell 0
  have c1 := hB.out.cell 1
  have hBl := hB.out.row.lt
  have e1 : ∀ x, (W.alloc x).cell? ⟨w.heap.size, 1, none⟩ = some (.string (S b1)) := fun x => (World.cell?_alloc_past _ _ _ hBl).trans c1
  have e2 : ∀ x y, ((W.alloc x).alloc y).cell? ⟨w.heap.size, 1, none⟩ = some (.string (S b1)) := fun x y => (World.cell?_alloc_past _ _ _ (by simp; omega)).trans (e1 x)
  obtain ⟨n1, hn1⟩ : ∃ n1, n1 = min b1.length 100 := ⟨_, rfl⟩
  have hm1 : min (b1.length : Int) 100 = (n1 : Int) := by omega
  have hl1 : 0 ≤ (n1 : Int) ∧ (n1 : Int) ≤ (b1.length : Int) := by omega
  clear hn1
  obtain ⟨pay, hpay⟩ : ∃ pay, pay = List.take n1 b1 := ⟨_, rfl⟩
  have hpl : pay.length ≤ 100 := by rw [hpay]; simp; omega
  go_cut [7, 8] from 36 to 42 (fun s7 s8 wx => ∃ kb pb, s7 = .pointer (some ⟨kb, 0, none⟩) ∧ s8 = .pointer (some ⟨pb, 0, none⟩) ∧ RowIs wx 5 kb [.int .u8 0] ∧ RowIs wx 9 pb [.string (S pay)] ∧ kb ≠ pb ∧ W.heap.size ≤ kb ∧ Below W.heap.size W wx)
  case first =>
    as_aux_lemma =>
      go_region
      · rw [← hpay]
        go_wp2_with fail
        go_meet
        exact ⟨W.heap.size, W.heap.size + 1, rfl, rfl, RowIs.drew ((RowIs.new W _ [.int .u8 0]).alloc _), RowIs.drew (RowIs.new' _ _ [.string (S pay)] _ (by simp)), by omega, by omega, below_drew' (((Below.refl _ W).alloc (Nat.le_refl _) _).alloc (by simp) _)⟩
      · rw [← hpay]
        go_wp2_with fail
        go_meet
        exact ⟨W.heap.size + 1, W.heap.size, rfl, rfl, RowIs.drew (RowIs.new' _ _ [.int .u8 0] _ (by simp)), RowIs.drew ((RowIs.new W _ [.string (S pay)]).alloc _), by omega, by omega, below_drew' (((Below.refl _ W).alloc (Nat.le_refl _) _).alloc (by simp) _)⟩
  case rest =>
  as_aux_lemma =>
    obtain ⟨kb, pb, rfl, rfl, hk1, hp1, hkp, hkW, hX1⟩ := hcut
    obtain ⟨w1, hw1⟩ : ∃ w1, w1 = wc := ⟨_, rfl⟩
    subst hw1
    have hB1 := Lib.hid (hB.out.on hX1)
    have hU1 := Lib.hid (hU.out.on hX1)
    have hb1 := hX.trans (hX1.mono hX.size)
    clear hB hU hX hX1 c0 c1 e1 e2 hm1 hl1 hpay
    have c0 : w1.cell? ⟨w.heap.size, 0, none⟩ = some (.string (S b0)) := hB1.out.cell 0
    have k0 : w1.cell? ⟨kb, 0, none⟩ = some (.int .u8 0) := hk1.cell 0
    have kf := hk1.frozen 0
    go_upto_if 45 with (fail)
    go_cut [] from 43 to 48 (fun wx => ∃ k : Nat, RowIs wx 5 kb [.int .u8 k] ∧ w1.grownBy wx (some kb))
    case first =>
      as_aux_lemma =>
        rcases b0 with _ | ⟨x0, b0⟩
        · go_wp2_with fail
          go_meet
          exact ⟨0, hk1, World.grownBy.refl _ _⟩
        · have hne : (x0 :: b0).isEmpty = false := rfl
          go_wp2_with fail
          go_meet
          exact ⟨x0.toNat, hk1.put 0 _, ⟨rfl, rfl, rfl, by rw [World.size_setCell]; exact Nat.le_refl _, fun i _ hi => Go.heap_setCell_other _ _ _ _ (fun e => hi (by rw [e]))⟩⟩
    case rest =>
    as_aux_lemma =>
      obtain ⟨k, hk2, hg2⟩ := hcut
      obtain ⟨w2, hw2⟩ : ∃ w2, w2 = wc := ⟨_, rfl⟩
      subst hw2
      have hU2 := Lib.hid (show RwAt w2 91 (w.heap.size + 1) [.string (S u0), .string (S u1)] from ⟨hU1.out.row.kept hg2 (fun e => by have := Option.some.inj e; omega)⟩)
      have hp2 : RowIs w2 9 pb [.string (S pay)] := hp1.kept hg2 (fun e => hkp (Option.some.inj e).symm)
      have hb2 : Below w.heap.size w w2 := hb1.grown hg2 (by have := hb1.size; omega) (fun q e => by have := Option.some.inj e; omega)
      have hLD := Lib.hid (clos_all kb pb k pay w2 (hk2.cell 0) (hp2.cell 0))
      have hKR := Lib.hid (show RwAt w2 5 kb [.int .u8 k] from ⟨hk2⟩)
      have hPR := Lib.hid (show RwAt w2 9 pb [.string (S pay)] from ⟨hp2⟩)
      clear hB1 hU1 hb1 hk1 hp1 c0 k0 kf hg2 hk2 hp2
      go_upto_region 5 with (fail)
      go_cut [10, 11] from 50 to 57 (fun s10 s11 wx => ∃ a10 a11, s10 = a10 ∧ s11 = a11 ∧ ((∃ (H tb vb : Nat), h = (H : Int) ∧ 1 ≤ H ∧ H ≤ 32 ∧ a10 = .pointer (some ⟨tb, 0, none⟩) ∧ a11 = .int .i64 0 ∧ TrAt wx tb 3 4 3 (.func (.func 36) #[] #[.pointer (some ⟨kb, 0, none⟩), .pointer (some ⟨pb, 0, none⟩)]) vb (H : Int) (.slice none 0 0) 0 0 ∧ VxAt wx vb true 1 0 0 false (.slice none 0 0) (.slice none 0 0) (.slice none 0 0) (.slice none 0 0)) ∨ ((h < 1 ∨ 32 < h) ∧ a10 = .pointer none ∧ a11 = .int .i64 2)) ∧ Below w2.heap.size w2 wx)
      case first =>
        as_aux_lemma =>
          go_wp2_with fail
          refine (thread (small_any w2) w2.heap.size w2 (Below.refl _ _) (Nat.le_refl _)).mono ?_
          rintro e w3 ⟨rfl, hX3, -, -, -, hz3⟩
          go_wp2_with fail
          by_cases hm : h < 1 ∨ 32 < h
          · refine (open_none 3 4 3 (.func 36) #[] #[.pointer (some ⟨kb, 0, none⟩), .pointer (some ⟨pb, 0, none⟩)] 1 0 0 h w3 hm).mono ?_
            rintro e w4 ⟨rfl, hX4⟩
            have hX := hX3.trans (hX4.mono hz3)
            go_wp2_with fail
            go_meet
            exact ⟨_, _, rfl, rfl, Or.inr ⟨hm, rfl, rfl⟩, hX⟩
          · obtain ⟨H, rfl⟩ : ∃ H : Nat, h = (H : Int) := ⟨h.toNat, by omega⟩
            refine (open_some 3 4 3 (.func 36) #[] #[.pointer (some ⟨kb, 0, none⟩), .pointer (some ⟨pb, 0, none⟩)] 1 0 0 (H : Int) w3 (by omega) (by omega)).mono ?_
            rintro e w4 ⟨rfl, ht4, hv4, hX4⟩
            have hX := hX3.trans (hX4.mono hz3)
            go_wp2_with fail
            go_meet
            exact ⟨_, _, rfl, rfl, Or.inl ⟨H, _, _, rfl, by omega, by omega, rfl, rfl, ht4, hv4⟩, hX⟩
      case rest =>
      as_aux_lemma =>
        obtain ⟨a10, a11, e10, e11, h10, hX3⟩ := hcut
        rw [e10, e11]
        clear e10 e11
        obtain ⟨w3, hw3⟩ : ∃ w3, w3 = wc := ⟨_, rfl⟩
        subst hw3
        have hU3 := Lib.hid (hU2.out.on hX3)
        have hb3 := hb2.trans (hX3.mono hb2.size)
        have hLD3 := Lib.hid (hLD.out.on hX3)
        have hKR3 := Lib.hid (hKR.out.on hX3)
        have hPR3 := Lib.hid (hPR.out.on hX3)
        clear hU2 hb2 hLD hKR hPR hX3
        go_upto_region 6 with (fail)
        go_cut [12] from 58 to 63 (fun s12 wx => ∃ mb, s12 = .bool mb ∧ mb = (decide (1 ≤ h) && decide (h ≤ 32)) ∧ wx = w3)
        case first =>
          as_aux_lemma =>
            by_cases h1 : 1 ≤ h
            · have d1 : decide (1 ≤ h) = true := by simpa using h1
              go_wp2_with fail
              go_meet
              exact ⟨_, rfl, by simp [d1], rfl⟩
            · have d1 : decide (1 ≤ h) = false := by simpa using h1
              go_wp2_with fail
              go_meet
              exact ⟨_, rfl, by simp [d1], rfl⟩
        case rest =>
        as_aux_lemma =>
          obtain ⟨mb, rfl, hmb, hwe⟩ := hcut
          rw [hwe]
          clear hwe
          go_upto_region 7 with (fail)
          go_cut [83] from 64 to 82 (fun s83 wx => s83 = .bool false ∧ Below w3.heap.size w3 wx)
          case first =>
            as_aux_lemma =>
              rcases h10 with ⟨H, tb, vb, rfl, h1, h2, rfl, rfl, -, -⟩ | ⟨hm, rfl, rfl⟩
              · obtain rfl : mb = true := by rw [hmb]; simp; omega
                clear hmb
                go_wp2_with fail
                refine (thread (wakes21 w3) w3.heap.size w3 (Below.refl _ _) (Nat.le_refl _)).mono ?_
                rintro e w4 ⟨rfl, hX4, -, -, -, hz4⟩
                go_wp2_with fail
                go_meet
                exact ⟨rfl, hX4⟩
              · obtain rfl : mb = false := by rw [hmb]; simp; omega
                clear hmb
                go_wp2_with fail
                refine (thread (wakes21 w3) w3.heap.size w3 (Below.refl _ _) (Nat.le_refl _)).mono ?_
                rintro e w4 ⟨rfl, hX4, -, -, -, hz4⟩
                go_wp2_with fail
                go_meet
                exact ⟨rfl, hX4⟩
          case rest =>
          as_aux_lemma =>
            obtain ⟨rfl, hX4⟩ := hcut
            obtain ⟨w4, hw4⟩ : ∃ w4, w4 = wc := ⟨_, rfl⟩
            subst hw4
            have h10' : (∃ (H tb vb : Nat), h = (H : Int) ∧ 1 ≤ H ∧ H ≤ 32 ∧ a10 = Value.pointer (some ⟨tb, 0, none⟩) ∧ TrAt w4 tb 3 4 3 (.func (.func 36) #[] #[.pointer (some ⟨kb, 0, none⟩), .pointer (some ⟨pb, 0, none⟩)]) vb (H : Int) (.slice none 0 0) 0 0 ∧ VxAt w4 vb true 1 0 0 false (.slice none 0 0) (.slice none 0 0) (.slice none 0 0) (.slice none 0 0)) ∨ (h < 1 ∨ 32 < h) := by
              rcases h10 with ⟨H, tb, vb, e1, h1, h2, e2, -, ht, hv⟩ | ⟨hm, -, -⟩
              · exact Or.inl ⟨H, tb, vb, e1, h1, h2, e2, ht.on hX4, hv.on hX4⟩
              · exact Or.inr hm
            have hU4 := Lib.hid (hU3.out.on hX4)
            have hb4 := hb3.trans (hX4.mono hb3.size)
            have hLD4 := Lib.hid (hLD3.out.on hX4)
            have hKR4 := Lib.hid (hKR3.out.on hX4)
            have hPR4 := Lib.hid (hPR3.out.on hX4)
            clear h10 hU3 hb3 hLD3 hKR3 hPR3 hX4
            go_upto_if 84 with (fail)
            go_cut [13, 14, 15, 16, 17, 18, 19, 20, 21] from 84 to 157 (fun s13 s14 s15 s16 s17 s18 s19 s20 s21 wx => Below w4.heap.size w4 wx)
            case first =>
              as_aux_lemma =>
                rcases h10' with ⟨H, tb, vb, rfl, h1, h2, rfl, ht, hv⟩ | hm
                · obtain rfl : mb = true := by rw [hmb]; simp; omega
                  clear hmb
                  have hT := Lib.hid ht
                  have hV := Lib.hid hv
                  clear ht hv
                  have p0 : w4.cell? ⟨pb, 0, none⟩ = some (.string (S pay)) := hPR4.out.cell 0
                  go_wp2_with fail
                  refine (refParse_any pay (by omega) w4).mono ?_
                  rintro e w5 ⟨⟨ra, rc, rfl, -⟩, hX5⟩
                  have hT5 := Lib.hid (hT.out.on hX5)
                  have hV5 := Lib.hid (hV.out.on hX5)
                  have hL5 := Lib.hid (hLD4.out.on hX5)
                  have hK5 := Lib.hid (hKR4.out.on hX5)
                  go_upto_region 11 with (fail)
                  rw [show (⟨#[107]⟩ : ByteArray) = S [107] from rfl]
                  go_wp2_with fail
                  refine (get21 [107] k pay w5 hT5.out hV5.out hL5.out h1 h2 (by omega)).mono ?_
                  rintro e w6 ⟨⟨gv, gt, gn, rfl⟩, hX6⟩
                  have hT6 := Lib.hid (hT5.out.on hX6)
                  have hV6 := Lib.hid (hV5.out.on hX6)
                  have hL6 := Lib.hid (hL5.out.on hX6)
                  have hK6 := Lib.hid (hK5.out.on hX6)
                  have hb6 := hX5.trans (hX6.mono hX5.size)
                  clear hT hV hT5 hV5 hL5 hK5 hX5 hX6 p0
                  go_wp2_with fail
                  refine (scan21 k pay w6 hT6.out hV6.out hL6.out h1 h2 (by omega)).mono ?_
                  rintro e w7 ⟨⟨sv, rfl⟩, hX7⟩
                  have k0 : w7.cell? ⟨kb, 0, none⟩ = some (.int .u8 k) := (hK6.out.on hX7).cell 0
                  have hb7 := hb6.trans (hX7.mono hb6.size)
                  clear hT6 hV6 hL6 hK6 hX7 hb6
                  obtain ⟨C, hC⟩ : ∃ C, C = codeT H k pay := ⟨_, rfl⟩
                  rw [← hC]
                  unfold codeT at hC
                  generalize (parseE pay).2 = n at *
                  by_cases hg : H = 1 ∧ k = 4 ∧ n = 0
                  · rw [if_pos hg] at hC
                    obtain ⟨rfl, rfl, rfl⟩ := hg
                    subst hC
                    go_wp2_with fail
                    go_meet
                    exact hb7
                  · rw [if_neg hg] at hC
                    subst hC
                    by_cases hH : H = 1
                    · subst hH
                      by_cases hk : k = 4
                      · subst hk
                        have hn : ((n : Int) == 0) = false := by simp; intro e; exact hg ⟨rfl, rfl, e⟩
                        go_wp2_with fail
                        go_meet
                        exact hb7
                      · have hk4 : ((k : Int) == 4) = false := by simp; omega
                        go_wp2_with fail
                        go_meet
                        exact hb7
                    · have hH1 : ((H : Int) == 1) = false := by simp; omega
                      have hH2 : decide (1 < (H : Int)) = true := by simp; omega
                      by_cases hk : k = 5
                      · have hk5 : ((k : Int) != 5) = false := by simp; omega
                        go_wp2_with fail
                        go_meet
                        exact hb7
                      · have hk5 : ((k : Int) != 5) = true := by simp; omega
                        go_wp2_with fail
                        go_meet
                        exact hb7
                · obtain rfl : mb = false := by rw [hmb]; simp; omega
                  go_wp2_with fail
                  go_meet
                  exact Below.refl _ _
            case rest =>
            as_aux_lemma =>
              obtain ⟨w5, hw5⟩ : ∃ w5, w5 = wc := ⟨_, rfl⟩
              subst hw5
              have hU5 := Lib.hid (hU4.out.on hcut)
              have hb5 := hb4.trans (hcut.mono hb4.size)
              clear hU4 hb4 hcut hLD4 hKR4 hPR4 h10' hmb
              have v0 : w5.cell? ⟨w.heap.size + 1, 0, none⟩ = some (.string (S u0)) := hU5.out.cell 0
              have v1 : w5.cell? ⟨w.heap.size + 1, 1, none⟩ = some (.string (S u1)) := hU5.out.cell 1
              have hul := hU5.out.row.lt
              have ve0 : ∀ x, (w5.alloc x).cell? ⟨w.heap.size + 1, 0, none⟩ = some (.string (S u0)) := fun x => (World.cell?_alloc_past _ _ _ hul).trans v0
              have ve1 : ∀ x, (w5.alloc x).cell? ⟨w.heap.size + 1, 1, none⟩ = some (.string (S u1)) := fun x => (World.cell?_alloc_past _ _ _ hul).trans v1
              obtain ⟨m0, hm0⟩ : ∃ m0, m0 = min u0.length 30 := ⟨_, rfl⟩
              have hmn0 : min (u0.length : Int) 30 = (m0 : Int) := by omega
              have hl0 : 0 ≤ (m0 : Int) ∧ (m0 : Int) ≤ (u0.length : Int) := by omega
              obtain ⟨m1, hm1⟩ : ∃ m1, m1 = min u1.length 40 := ⟨_, rfl⟩
              have hmn1 : min (u1.length : Int) 40 = (m1 : Int) := by omega
              have hl1 : 0 ≤ (m1 : Int) ∧ (m1 : Int) ≤ (u1.length : Int) := by omega
              clear hm0 hm1
              obtain ⟨key, hkey⟩ : ∃ key, key = List.take m0 u0 := ⟨_, rfl⟩
              obtain ⟨val, hval⟩ : ∃ val, val = List.take m1 u1 := ⟨_, rfl⟩
              go_upto_region 16 with (fail)
              go_cut [22] from 158 to 172 (fun s22 wx => ∃ xb, s22 = .pointer (some ⟨xb, 0, none⟩) ∧ RowIs wx 39 xb [.int .u8 1, .string (S key), .string (S val), .int .u64 0] ∧ w5.heap.size ≤ xb ∧ Below w5.heap.size w5 wx)
              case first =>
                as_aux_lemma =>
                  go_region
                  all_goals
                    rw [← hkey, ← hval]
                    go_wp2_with fail
                    go_meet
                    exact ⟨w5.heap.size, rfl, RowIs.drew (RowIs.new w5 _ _), Nat.le_refl _, below_drew' ((Below.refl _ _).alloc (Nat.le_refl _) _)⟩
              case rest =>
              as_aux_lemma =>
                obtain ⟨xb, rfl, hx6, hxb, hX6⟩ := hcut
                obtain ⟨w6, hw6⟩ : ∃ w6, w6 = wc := ⟨_, rfl⟩
                subst hw6
                have hXR := Lib.hid (show RwAt w6 39 xb [.int .u8 1, .string (S key), .string (S val), .int .u64 0] from ⟨hx6⟩)
                have hb6 := hb5.trans (hX6.mono hb5.size)
                have hb5s := hb5.size
                clear hU5 hb5 hX6 hx6 v0 v1 hul ve0 ve1 hmn0 hmn1 hl0 hl1 hkey hval
                go_upto_region 17 with (fail)
                go_wp2_with fail
                refine (thread (small_any w6) w6.heap.size w6 (Below.refl _ _) (Nat.le_refl _)).mono ?_
                rintro e w7 ⟨rfl, hX7, -, -, -, hz7⟩
                go_wp2_with fail
                refine (new_any 3 4 3 (.func 36) #[] #[.pointer (some ⟨kb, 0, none⟩), .pointer (some ⟨pb, 0, none⟩)] w7).mono ?_
                rintro e w8 ⟨rfl, ht8, hv8, hX8⟩
                go_upto_region 18 with (fail)
                obtain ⟨ntb, hntb⟩ : ∃ ntb, ntb = w7.heap.size + 1 + 1 := ⟨_, rfl⟩
                obtain ⟨nb, hnb⟩ : ∃ nb, nb = w7.heap.size + 1 := ⟨_, rfl⟩
                rw [← hntb] at ht8 ⊢
                rw [← hnb] at ht8 hv8
                have hxl := hXR.out.row.lt
                have hXR8 := Lib.hid ((hXR.out.on hX7).on hX8)
                have hb8 := (hb6.trans (hX7.mono hb6.size)).trans (hX8.mono (by have := hb6.size; omega))
                have hnbx : nb ≠ xb := by omega
                have hnbw : w.heap.size ≤ nb := by have := hb6.size; omega
                clear hntb hnb hX7 hX8 hXR hb6
                have HCK := Lib.hid (fun W => chk 1 key val 0 (by decide) (by decide) W)
                have x0 : w8.cell? ⟨xb, 0, none⟩ = some (.int .u8 1) := hXR8.out.cell 0
                have x1 : w8.cell? ⟨xb, 1, none⟩ = some (.string (S key)) := hXR8.out.cell 1
                have x2 : w8.cell? ⟨xb, 2, none⟩ = some (.string (S val)) := hXR8.out.cell 2
                have x3 : w8.cell? ⟨xb, 3, none⟩ = some (.int .u64 0) := hXR8.out.cell 3
                have hz8 : Below w8.heap.size w8 w8.drew := below_drew' (Below.refl _ _)
                go_cut [181] from 176 to 180 (fun s181 wx => s181 = .bool false ∧ RwAt wx 39 xb [.int .u8 1, .string (S key), .string (S val), .int .u64 0] ∧ Below w.heap.size w wx)
                case first =>
                  as_aux_lemma =>
                    by_cases hc : (Upd.mk 1 key val 0).check = 0
                    · have HAP := Lib.hid (fun W (hz : Below w8.heap.size w8 W) => apply_leaf 1 key val 0 W (ht8.on hz) (hv8.on hz) (es := []) ⟨_, rfl, _, _, rfl, Or.inl rfl, by simp, by simp, fun _ => rfl⟩ (by simp) (by simp [Rising]) (by intro e he; simp at he) (by decide) (by decide) hc (by have := one_on key val; omega))
                      rw [hc] at HCK
                      go_region_law (first
                        | (go_simp; go_at_call 13; refine (HAP.out _ (by assumption)).mono ?_; rintro e w9 ⟨rfl, -, -, hK9⟩; have y0 := keep_cell hK9 (kept_cell (by assumption) x0) (by show ¬ xb = nb; omega); have y1 := keep_cell hK9 (kept_cell (by assumption) x1) (by show ¬ xb = nb; omega); have y2 := keep_cell hK9 (kept_cell (by assumption) x2) (by show ¬ xb = nb; omega); have y3 := keep_cell hK9 (kept_cell (by assumption) x3) (by show ¬ xb = nb; omega))
                        | (go_simp; go_at_call 38; refine (HCK.out _).mono ?_; rintro e w10 ⟨rfl, hX10⟩))
                      all_goals
                        have hXRf := ((hXR8.out.on hz8).keep hK9 (by show ¬ xb = nb; omega)).on hX10
                        have hsz : w.heap.size ≤ w8.drew.heap.size := hb8.size
                        have hbf := ((hb8.trans (hz8.mono hb8.size)).trans (hK9.below hsz (fun x hx => by have : x = nb := hx; omega))).trans (hX10.mono (by have := hK9.size; omega))
                        go_wp2_with fail
                        go_meet
                        exact ⟨rfl, hXRf, hbf⟩
                    · have HAN := Lib.hid (fun W => apply_no (tb := ntb) 1 key val 0 W (by decide) (by decide) hc)
                      clear hc
                      generalize (Upd.mk 1 key val 0).check = cn at *
                      go_region_law (first
                        | (go_simp; go_at_call 13; refine (HAN.out _).mono ?_; rintro e w9 ⟨rfl, hX9⟩; have y0 := kept_cell hX9 x0; have y1 := kept_cell hX9 x1; have y2 := kept_cell hX9 x2; have y3 := kept_cell hX9 x3)
                        | (go_simp; go_at_call 38; refine (HCK.out _).mono ?_; rintro e w10 ⟨rfl, hX10⟩))
                      all_goals
                        have hXRf := ((hXR8.out.on hz8).on hX9).on hX10
                        have hsz : w.heap.size ≤ w8.drew.heap.size := hb8.size
                        have hbf := ((hb8.trans (hz8.mono hb8.size)).trans (hX9.mono hsz)).trans (hX10.mono (by have := hX9.size; omega))
                        go_wp2_with fail
                        go_meet
                        exact ⟨rfl, hXRf, hbf⟩
                case rest =>
                as_aux_lemma =>
                  obtain ⟨rfl, hXR9, hb9⟩ := hcut
                  obtain ⟨w9, hw9⟩ : ∃ w9, w9 = wc := ⟨_, rfl⟩
                  subst hw9
                  have hXR := Lib.hid hXR9
                  clear hXR8 x0 x1 x2 x3 hz8 hb8 HCK hXR9
                  go_upto_region 21 with (fail)
                  rw [show (⟨#[107]⟩ : ByteArray) = S [107] from rfl]
                  go_wp2_with fail
                  go_wp2_with fail
                  refine (thread (get_nil [107] w9) w9.heap.size w9 (Below.refl _ _) (Nat.le_refl _)).mono ?_
                  rintro e w10 ⟨rfl, hX_w10, -, -, -, hz_w10⟩
                  replace hXR := Lib.hid (hXR.out.kept hX_w10 (Nat.le_refl _))
                  replace hb9 := hb9.trans (hX_w10.mono hb9.size)
                  clear hX_w10
                  go_upto_region 22 with (fail)
                  go_wp2_with fail
                  go_wp2_with fail
                  refine (thread (scan_nil ⟨#[]⟩ ⟨#[]⟩ 1 w10) w10.heap.size w10 (Below.refl _ _) (Nat.le_refl _)).mono ?_
                  rintro e w11 ⟨rfl, hX_w11, -, -, -, hz_w11⟩
                  replace hXR := Lib.hid (hXR.out.kept hX_w11 (Nat.le_refl _))
                  replace hb9 := hb9.trans (hX_w11.mono hb9.size)
                  clear hX_w11
                  go_upto_region 23 with (fail)
                  go_wp2_with fail
                  go_wp2_with fail
                  refine (thread (commit_nil .nilFunc w11) w11.heap.size w11 (Below.refl _ _) (Nat.le_refl _)).mono ?_
                  rintro e w12 ⟨rfl, hX_w12, -, -, -, hz_w12⟩
                  replace hXR := Lib.hid (hXR.out.kept hX_w12 (Nat.le_refl _))
                  replace hb9 := hb9.trans (hX_w12.mono hb9.size)
                  clear hX_w12
                  go_upto_region 24 with (fail)
                  obtain ⟨W12, hW_W12⟩ : ∃ W12, W12 = (w12.alloc (.cells #[.int .i64 0, .int .u64 0, .int .u32 0] 54)) := ⟨_, rfl⟩
                  rw [← hW_W12]
                  have hX_W12 : Below w12.heap.size w12 W12 := by rw [hW_W12]; go_grown
                  have gp0 : W12.cell? ⟨w12.heap.size, 0, none⟩ = some (.int .i64 0) := by rw [hW_W12, World.cell?_alloc_at _ _ _ _ (by simp)]; rfl
                  have gp1 : W12.cell? ⟨w12.heap.size, 1, none⟩ = some (.int .u64 0) := by rw [hW_W12, World.cell?_alloc_at _ _ _ _ (by simp)]; rfl
                  have gp2 : W12.cell? ⟨w12.heap.size, 2, none⟩ = some (.int .u32 0) := by rw [hW_W12, World.cell?_alloc_at _ _ _ _ (by simp)]; rfl
                  clear hW_W12
                  have hz_W12 := hX_W12.size
                  replace hXR := Lib.hid (hXR.out.kept hX_W12 (Nat.le_refl _))
                  replace hb9 := hb9.trans (hX_W12.mono hb9.size)
                  clear hX_W12
                  go_wp2_with fail
                  go_wp2_with fail
                  refine (thread (copy_nil W12) W12.heap.size W12 (Below.refl _ _) (Nat.le_refl _)).mono ?_
                  rintro e w13 ⟨rfl, hX_w13, -, -, -, hz_w13⟩
                  replace gp0 := kept_cell hX_w13 gp0
                  replace gp1 := kept_cell hX_w13 gp1
                  replace gp2 := kept_cell hX_w13 gp2
                  replace hXR := Lib.hid (hXR.out.kept hX_w13 (Nat.le_refl _))
                  replace hb9 := hb9.trans (hX_w13.mono hb9.size)
                  clear hX_w13
                  go_upto_region 26 with (fail)
                  go_wp2_with fail
                  go_wp2_with fail
                  refine (thread (flushes_nil w13) w13.heap.size w13 (Below.refl _ _) (Nat.le_refl _)).mono ?_
                  rintro e w14 ⟨rfl, hX_w14, -, -, -, hz_w14⟩
                  replace gp0 := kept_cell hX_w14 gp0
                  replace gp1 := kept_cell hX_w14 gp1
                  replace gp2 := kept_cell hX_w14 gp2
                  replace hXR := Lib.hid (hXR.out.kept hX_w14 (Nat.le_refl _))
                  replace hb9 := hb9.trans (hX_w14.mono hb9.size)
                  clear hX_w14
                  go_upto_region 27 with (fail)
                  have x0 : w14.cell? ⟨xb, 0, none⟩ = some (.int .u8 1) := hXR.out.cell 0
                  have x1 : w14.cell? ⟨xb, 1, none⟩ = some (.string (S key)) := hXR.out.cell 1
                  have x2 : w14.cell? ⟨xb, 2, none⟩ = some (.string (S val)) := hXR.out.cell 2
                  have x3 : w14.cell? ⟨xb, 3, none⟩ = some (.int .u64 0) := hXR.out.cell 3
                  go_wp2_with fail
                  go_wp2_with fail
                  refine (thread (apply_nil 1 key val 0 w14) w14.heap.size w14 (Below.refl _ _) (Nat.le_refl _)).mono ?_
                  rintro e w15 ⟨rfl, hX_w15, -, -, -, hz_w15⟩
                  replace gp0 := kept_cell hX_w15 gp0
                  replace gp1 := kept_cell hX_w15 gp1
                  replace gp2 := kept_cell hX_w15 gp2
                  replace hXR := Lib.hid (hXR.out.kept hX_w15 (Nat.le_refl _))
                  replace hb9 := hb9.trans (hX_w15.mono hb9.size)
                  clear hX_w15
                  go_wp2_with fail
                  go_wp2_with fail
                  refine (thread (height_nil w15) w15.heap.size w15 (Below.refl _ _) (Nat.le_refl _)).mono ?_
                  rintro e w16 ⟨rfl, hX_w16, -, -, -, hz_w16⟩
                  replace gp0 := kept_cell hX_w16 gp0
                  replace gp1 := kept_cell hX_w16 gp1
                  replace gp2 := kept_cell hX_w16 gp2
                  replace hXR := Lib.hid (hXR.out.kept hX_w16 (Nat.le_refl _))
                  replace hb9 := hb9.trans (hX_w16.mono hb9.size)
                  clear hX_w16
                  go_wp2_with fail
                  go_wp2_with fail
                  refine (thread (dirty_nil w16) w16.heap.size w16 (Below.refl _ _) (Nat.le_refl _)).mono ?_
                  rintro e w17 ⟨rfl, hX_w17, -, -, -, hz_w17⟩
                  replace gp0 := kept_cell hX_w17 gp0
                  replace gp1 := kept_cell hX_w17 gp1
                  replace gp2 := kept_cell hX_w17 gp2
                  replace hXR := Lib.hid (hXR.out.kept hX_w17 (Nat.le_refl _))
                  replace hb9 := hb9.trans (hX_w17.mono hb9.size)
                  clear hX_w17
                  go_wp2_with fail
                  go_wp2_with fail
                  refine (thread (walk_nil .nilFunc w17) w17.heap.size w17 (Below.refl _ _) (Nat.le_refl _)).mono ?_
                  rintro e w18 ⟨rfl, hX_w18, -, -, -, hz_w18⟩
                  replace gp0 := kept_cell hX_w18 gp0
                  replace gp1 := kept_cell hX_w18 gp1
                  replace gp2 := kept_cell hX_w18 gp2
                  replace hXR := Lib.hid (hXR.out.kept hX_w18 (Nat.le_refl _))
                  replace hb9 := hb9.trans (hX_w18.mono hb9.size)
                  clear hX_w18
                  go_wp2_with fail
                  go_ret
                  exact ⟨rfl, hb9⟩

end Go.Proofs.YtafciefjlkdecaaGreat
