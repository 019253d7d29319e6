/-
  The walk of LeafParts.
-/
import Derived.Test.YtcjeonamebnpfaaOrdE
import Derived.Test.YtcjeonamebnpfaaWakeE
import Derived.Deep.RegionHeld3
import Derived.BigQuiet
import Derived.Deep.DrawnRows
namespace Go.Proofs.Ytcjeonamebnpfaa
open Go.RowKit
attribute [local go_sem ↓] Go.wp_at_zero Go.wp_at_succ

/-- A region that draws its order, walked once, in a class of worlds. -/
theorem wp_region_quietC {P : Program} {C : World → Prop} {id : Nat} {Q : Exit → Act → World → Prop} {a : Act} {w : World} {l : List Oper} (hm : P.follows .mixedOrders = true) (hB : Region.lexB .any l.toArray = true) (hC : C w.drew)
    (h : wpQuiet P l.toArray C (fun a' => ∀ w', C w' → Q .normal a' w') l a) : (Code.region id l.toArray true).wp P Q a w :=
  wp_region_quiet (C := C) hm hB hC (by simpa using h)
/-- The quiet walk, shut: so that nobody reckons it ahead of its time. -/
structure WQ (P : Program) (ops : Array Oper) (C : World → Prop) (Q : Act → Prop) (l : List Oper) (a : Act) : Prop where
  out : wpQuiet P ops C Q l a
theorem WQ.want {P : Program} {ops : Array Oper} {C : World → Prop} {Q : Act → Prop} {o : Oper} {rest : List Oper} {a : Act} (hw : Region.wanted o (yielded ops a.tmps) = true) (h : ∀ K : Act → Prop, (∀ a, WQ P ops C Q rest a → K a) → o.quiet P a C K) : WQ P ops C Q (o :: rest) a :=
  ⟨BigFrame.wpQuiet_want hw fun K hK => h K fun a ha => hK a ha.out⟩
theorem WQ.skip {P : Program} {ops : Array Oper} {C : World → Prop} {Q : Act → Prop} {o : Oper} {rest : List Oper} {a : Act} (hw : Region.wanted o (yielded ops a.tmps) = false) (h : WQ P ops C Q rest (a.put o.dst undef)) : WQ P ops C Q (o :: rest) a :=
  ⟨BigFrame.wpQuiet_skip hw h.out⟩
theorem WQ.done {P : Program} {ops : Array Oper} {C : World → Prop} {Q : Act → Prop} {a : Act} (h : Q a) : WQ P ops C Q [] a := ⟨wpQuiet_nil h⟩
theorem WQ.region {P : Program} {C : World → Prop} {id : Nat} {Q : Exit → Act → World → Prop} {a : Act} {w : World} {l : List Oper} (hm : P.follows .mixedOrders = true) (hB : Region.lexB .any l.toArray = true) (hC : C w.drew)
    (h : WQ P l.toArray C (fun a' => ∀ w', C w' → Q .normal a' w') l a) : (Code.region id l.toArray true).wp P Q a w := wp_region_quietC hm hB hC h.out

/-- Len, of whatever slice. -/
theorem lenAny (a : Option Addr) (n c : Nat) (w : World) :
    Calls Try.prog 19 #[.agg #[.slice a n c]] w fun e w' => e = .returned (.int .i64 n) ∧ Below w.heap.size w w' := by
  go_enter Try.func19, Try.ntmps19
  go_wp2
  go_ret
  exact ⟨rfl, by go_grown⟩
theorem leafOn_at (a : Option Addr) (n c b : Nat) (us : List Upd) (u : Upd) (w : World) (t : TypeId) (hb : w.heap.size = b) (hn : n = (onAll [] us).length) (h : BoxE w (.agg #[.slice a n c]) (onAll [] us)) (hl : us.length ≤ 1000) (hu : u.Wf) :
    Calls Try.prog 16 #[.agg #[.slice a n c], .slice (some ⟨b, 0, none⟩) 1 1] (w.alloc (.cells #[.int .u8 u.kind, .string (S u.key), .string (S u.val), .int .u64 u.delta] t)) fun e w' => (∃ a' c', e = .returned (.agg #[.slice a' (onAll [] (us ++ [u])).length c']) ∧ BoxE w' (.agg #[.slice a' (onAll [] (us ++ [u])).length c']) (onAll [] (us ++ [u]))) ∧ Below w.heap.size w w' := by
  subst hb
  exact leafOn_next a n c [] us u w t List.Pairwise.nil (fun e he => by simp at he) (by simp) hn h hl hu

theorem partsN_as (L : Nat) (hL : L ≤ 100000) (W : Nat) (_hW : 1 ≤ W) : tmax 1 (wrap64 (((L : Int) - 1).tdiv (W : Int) + 1)) = (partsN L W : Nat) := by
  by_cases h0 : L = 0
  · subst h0
    have e : (((0 : Nat) : Int) - 1).tdiv (W : Int) = -((1 / W : Nat) : Int) := by
      rw [show ((0 : Nat) : Int) - 1 = -((1 : Nat) : Int) by rfl, Int.neg_tdiv, Int.tdiv_eq_ediv_of_nonneg (by omega), Int.natCast_ediv]
    have h1 := Nat.div_le_self 1 W
    rw [e]
    generalize 1 / W = q at *
    rw [IntWalk.wrap64_in _ (by omega), show partsN 0 W = 1 from rfl]
    unfold tmax
    split <;> omega
  · obtain ⟨j, rfl⟩ : ∃ j, L = j + 1 := ⟨L - 1, by omega⟩
    have e2 : ((j + 1 : Nat) : Int) - 1 = (j : Int) := by omega
    rw [e2, Int.tdiv_eq_ediv_of_nonneg (by omega), ← Int.natCast_ediv]
    have e3 : partsN (j + 1) W = j / W + 1 := by unfold partsN; rw [if_neg (by omega), Nat.add_sub_cancel]
    have e4 := Nat.div_le_self j W
    rw [e3]
    generalize j / W = q at *
    rw [IntWalk.wrap64_in _ (by omega)]
    unfold tmax
    split <;> omega
theorem partsN_zero (W : Nat) (_hW : 1 ≤ W) : tmax 1 (wrap64 (wrap64 (-Int.tdiv 1 (W : Int)) + 1)) = (partsN 0 W : Nat) := by
  have e : Int.tdiv 1 (W : Int) = ((1 / W : Nat) : Int) := by
    rw [show (1 : Int) = ((1 : Nat) : Int) by rfl, Int.tdiv_eq_ediv_of_nonneg (by omega), Int.natCast_ediv]
  have h1 := Nat.div_le_self 1 W
  rw [e]
  generalize 1 / W = q at *
  rw [IntWalk.wrap64_in (-(q : Int)) (by omega), IntWalk.wrap64_in _ (by omega), show partsN 0 W = 1 from rfl]
  unfold tmax
  split <;> omega
/-- Parts are as even as can be, and none has too many. -/
theorem parts_law (L : List Ent) (W n : Nat) (hn : partsN L.length W = n) (hW : 1 ≤ W) (j : Nat) (hj : j < n) : (partOf L n j).length ≤ W ∧ (0 < j → (partOf L n j).length ≤ (partOf L n (j - 1)).length) ∧ (partOf L n 0).length ≤ (partOf L n j).length + 1 := by
  have hpos : 0 < n := by omega
  have hle : L.length ≤ n * W := by
    rw [← hn]
    unfold partsN
    split
    · omega
    · have h1 := Nat.div_add_mod (L.length - 1) W
      have h2 := Nat.mod_lt (L.length - 1) hW
      have h3 : W * ((L.length - 1) / W) = (L.length - 1) / W * W := Nat.mul_comm _ _
      rw [Nat.succ_mul]
      omega
  have hdm := Nat.div_add_mod L.length n
  rw [partOf_len L n j hpos hj, partOf_len L n 0 hpos hpos]
  refine ⟨?_, fun h0 => ?_, ?_⟩
  · have hq : L.length / n ≤ W := Nat.div_le_of_le_mul hle
    split
    · rcases Nat.lt_or_ge (L.length / n) W with h | h
      · omega
      · have he : L.length / n = W := by omega
        rw [he] at hdm
        omega
    · omega
  · rw [partOf_len L n (j - 1) hpos (by omega)]
    generalize L.length / n = q
    generalize L.length % n = r
    split <;> split <;> omega
  · generalize L.length / n = q
    generalize L.length % n = r
    split <;> split <;> omega

set_option maxRecDepth 100000 in
set_option maxHeartbeats 8000000 in
theorem leafParts_walk (n : Nat) (most : Int) (w : World) (hn : n < 256) (hm1 : -9223372036854775808 ≤ most) (hm2 : most ≤ 9223372036854775807) :
    Calls Try.prog 4 #[.int .u8 n, .int .i64 most] w fun e w' => e = .returned (.bool true) ∧ Below w.heap.size w w' := by
  have hcv := fun w n c => run_str1 (P := Try.prog) 47 9 5 Try.underlying47 Try.underlying5 Try.underlying9 w n c
  have hmax := fun ts t a b w => run_tmax (P := Try.prog) ts t a b w
  have hN : (n : Int) % 70 = ((n % 70 : Nat) : Int) := by omega
  have hN2 : n % 70 < 70 := by omega
  generalize n % 70 = N at *
  have hwN : IntKind.i64.wrap (N : Int) = (N : Int) := IntWalk.i64_in _ (by omega)
  go_enter Try.func4, Try.ntmps4
  go_wp2_with fail
  rw [hN]
  clear hN
  go_loopw [19] (fun i wr => ∃ (k : Nat) (us : List Upd), i = .int .i64 k ∧ k ≤ N ∧ us.length = k ∧ InBoxE w.heap.size (onAll [] us) wr ∧ Below w.heap.size w wr) (fun i _ => N - (intOf i).toNat)
  case atStart => exact ⟨0, [], rfl, Nat.zero_le _, rfl, InBoxE.new (A := []) _ ⟨_, rfl, SlE.nil w⟩, by go_grown⟩
  case round =>
    obtain ⟨k, us, rfl, hk, hus, hP, hB⟩ := hrel
    have hk0 : (0 : Int) ≤ (k : Int) := Int.natCast_nonneg _
    by_cases hkN : k < N
    · have hk1 : (k : Int) < (N : Int) := by omega
      have hw1 : IntKind.i64.wrap ((k : Int) + 1) = (k : Int) + 1 := IntWalk.i64_in _ (by omega)
      have hw8 : IntKind.u8.wrap ((k : Int) + 1) = (k : Int) + 1 := by rw [IntKind.wrap_u8]; omega
      have HP := Lib.hid hP
      obtain ⟨⟨a, ca, p1, p2⟩, pf, pl⟩ := hP
      have hBz := hB.size
      have HW := Lib.hid (leafOn_at a _ ca (wr.heap.size + 1) us ⟨1, [UInt8.ofNat k + 1], [118], 0⟩ (wr.alloc (.cells #[.int .u8 ((k : Int) + 1)] 5)) 31 (by simp) rfl (p2.kept (by go_grown) (Nat.le_refl _)) (by omega) ⟨by show (1 : Nat) < 256; decide, by show (0 : Nat) < 18446744073709551616; decide⟩)
      clear p2
      go_wp2_with fail
      refine (HW.out).mono ?_
      rintro e w2 ⟨⟨a', c', rfl, hb'⟩, hbl⟩
      have hbl' : Below wr.heap.size wr w2 := ((Below.refl wr.heap.size wr).alloc (Nat.le_refl _) _).trans (hbl.mono (by simp))
      have z1 := kept_cell hbl' p1
      have z2 := ((bcell hbl').2 w.heap.size 0 pl).trans pf
      have HX := Lib.hid (InBoxE.put (HP.out.on hbl') hb')
      have HZ := Lib.hid ((hB.trans (below_same hbl' hBz)).setCell (p := ⟨w.heap.size, 0, none⟩) (Nat.le_refl _) (.slice a' (onAll [] (us ++ [⟨1, [UInt8.ofNat k + 1], [118], 0⟩])).length c'))
      clear HW hbl hb' hbl' HP
      go_wp2_with fail
      go_roundw
      (case rel => exact (⟨k + 1, us ++ [⟨1, [UInt8.ofNat k + 1], [118], 0⟩], by go_num, by omega, by simp [hus], HX.out, HZ.out⟩))
      (case measure => first | (simp [intOf]; done) | (simp [intOf]; omega))
    · obtain rfl : k = N := by omega
      obtain ⟨hLr, hLf, hLl⟩ := onAll_ok [] List.Pairwise.nil (fun e he => by simp at he) us
      have hLl' : (onAll [] us).length ≤ 69 := by simp at hLl; omega
      generalize onAll [] us = L at *
      clear hLl
      obtain ⟨wT, hwT⟩ : ∃ wT, wT = wr := ⟨_, rfl⟩
      subst hwT
      have hm0 : ∃ m0 : Nat, tmax 0 most = m0 := ⟨(tmax 0 most).toNat, by unfold tmax; split <;> omega⟩
      obtain ⟨m0, hm0⟩ := hm0
      have hm20 : ∃ m2 : Nat, 1 + (m0 : Int) % 20 = m2 ∧ m2 ≤ 20 := ⟨1 + m0 % 20, by omega, by omega⟩
      obtain ⟨m2, hm20, hm22⟩ := hm20
      have hw20 : IntKind.i64.wrap (m2 : Int) = (m2 : Int) := IntWalk.i64_in _ (by omega)
      have HL := Lib.hid hP
      have hBz := hB.size
      clear hcv hP
      go_wp2_with fail
      have hB1 : Below w.heap.size w (wT.alloc (.cells #[.int .i64 most, .int .i64 m2] 3)) := hB.alloc hBz _
      have c0 : (wT.alloc (.cells #[.int .i64 most, .int .i64 m2] 3)).cell? ⟨wT.heap.size, 0, none⟩ = some (.int .i64 most) := by simp
      have c1 : (wT.alloc (.cells #[.int .i64 most, .int .i64 m2] 3)).cell? ⟨wT.heap.size, 1, none⟩ = some (.int .i64 m2) := by simp
      have hLa := Lib.hid (HL.out.on (w' := wT.alloc (.cells #[.int .i64 most, .int .i64 m2] 3)) (by go_grown))
      have hza : wT.heap.size < (wT.alloc (.cells #[.int .i64 most, .int .i64 m2] 3)).heap.size := by simp
      have hLz := HL.out.lt
      clear HL hm0 hm20 hw20
      generalize wT.alloc (.cells #[.int .i64 most, .int .i64 m2] 3) = wA at *
      go_loopw [39] (fun i wr => ∃ j : Nat, i = .int .i64 j ∧ j ≤ 2 ∧ Below wA.heap.size wA wr) (fun i _ => 2 - (intOf i).toNat)
      case atStart => exact ⟨0, rfl, Nat.zero_le _, Below.refl _ _⟩
      case round =>
        obtain ⟨j, rfl, hj, hBj⟩ := hrel
        by_cases hj2 : j < 2
        · obtain ⟨m, hm, hmr1, hmr2⟩ : ∃ m : Int, wA.cell? ⟨wT.heap.size, j, none⟩ = some (.int .i64 m) ∧ -9223372036854775808 ≤ m ∧ m ≤ 9223372036854775807 := by
            match j, hj2 with
            | 0, _ => exact ⟨most, c0, hm1, hm2⟩
            | 1, _ => exact ⟨m2, c1, by omega, by omega⟩
          have hj0 : (0 : Int) ≤ (j : Int) := Int.natCast_nonneg _
          have hj1 : (j : Int) < 2 := by omega
          have s0 := (cell_below hBj hza _).trans hm
          have hLb := hLa.out.on hBj
          have HLb := Lib.hid hLb
          obtain ⟨⟨aL, cL, p1, p2⟩, pf, pl⟩ := hLb
          have HP2 := Lib.hid p2
          clear p2
          go_wp2_with fail
          refine (thread (parts_any _ L m wr HP2.out (by omega) hmr2) wr.heap.size wr (by go_grown) (by go_grown)).mono ?_
          rintro e w2 ⟨⟨v2, rfl, vs, hv1, hv2⟩, hX2, -, -, -, hz2⟩
          obtain ⟨W, hW⟩ : ∃ W : Nat, tmax m 1 = (W : Int) := ⟨(tmax m 1).toNat, by unfold tmax; split <;> omega⟩
          have hW1 : 1 ≤ W := by have : 1 ≤ tmax m 1 := by { unfold tmax; split <;> omega }
                                 omega
          have hW2 : (W : Int) ≤ 9223372036854775807 := by rw [← hW]; unfold tmax; split <;> omega
          rw [hW, Int.toNat_natCast] at hv1 hv2
          obtain ⟨pn, hpn⟩ : ∃ pn, partsN L.length W = pn := ⟨_, rfl⟩
          rw [hpn] at hv1 hv2
          obtain ⟨gv, cv, ev⟩ := own_form hv1
          subst ev
          have hpp : 0 < pn := by rw [← hpn]; exact partsN_pos _ _
          have hpl : pn ≤ 70 := by rw [← hpn]; have := partsN_le L.length W; omega
          have HV := Lib.hid hv2
          have HV1 := Lib.hid hv1
          have hd := Below.refl w2.heap.size w2
          obtain ⟨len, hlen⟩ : ∃ len, L.length = len := ⟨_, rfl⟩
          have p3 := kept_cell hX2 p1
          rw [hlen] at p3 hpn hLl'
          have HL2 := Lib.hid (HLb.out.on hX2)
          have hq : tmax 1 (wrap64 (((len : Int) - 1).tdiv (W : Int) + 1)) = (pn : Int) := by rw [← hpn]; exact partsN_as len (by omega) W hW1
          have hp1 : len = 0 → ((pn : Int) != 1) = false := fun h => by rw [← hpn, h]; rfl
          have hlaw := Lib.hid (fun j (hj : j < pn) => parts_law L W pn (by rw [hlen]; exact hpn) hW1 j hj)
          have hlen' := Lib.hid hlen
          have hpn' := Lib.hid hpn
          obtain ⟨bz, hbz⟩ : ∃ bz, decide (len = 0) = bz := ⟨_, rfl⟩
          clear hv2 hv1 p1 s0 HP2 pf hlen hpn
          cases bz with
          | true =>
            have hz0 : len = 0 := by simpa using hbz
            have hp2 := hp1 hz0
            subst hz0
            have hq0 : tmax 1 (wrap64 (wrap64 (-Int.tdiv 1 (W : Int)) + 1)) = (pn : Int) := by rw [← hpn'.out]; exact partsN_zero W hW1
            clear hp1 hbz hq
            go_wp2_with (first
              | (go_at_call 18; refine (wakesE_any _).mono ?_; rintro e w3 ⟨rfl, hb3⟩; have p3 := kept_cell hb3 p3; have hd := hd.trans (hb3.mono hd.size))
              | (go_at_call 19; refine (lenAny _ _ _ _).mono ?_; rintro e w3 ⟨rfl, hb3⟩; have p3 := kept_cell hb3 p3; have hd := hd.trans (hb3.mono hd.size)))
            have hAB := hBj.trans ((hX2.mono hBj.size).trans (hd.mono (Nat.le_trans hBj.size hX2.size)))
            have hAz := hAB.size
            obtain ⟨wB, hwB⟩ : ∃ wB, wB = w3 := ⟨_, rfl⟩
            subst hwB
            obtain ⟨g, rfl, -, hg2, hrow⟩ := own_at HV1.out (by omega)
            have HD := Lib.hid hd
            have HLB := Lib.hid (HL2.out.on hd)
            clear hd p3 HL2 hX2 HLb hza
            go_loopw [79, 11] (fun i s wr => ∃ j : Nat, i = .int .i64 j ∧ j ≤ pn ∧ s = .int .i64 (partAt 0 pn j : Nat) ∧ Below wB.heap.size wB wr) (fun i _ _ => pn - (intOf i).toNat)
            case atStart => exact ⟨0, rfl, Nat.zero_le _, by rw [partAt_zero]; rfl, Below.refl _ _⟩
            case round =>
              obtain ⟨j3, rfl, hj3, rfl, hB3⟩ := hrel
              have hj30 : (0 : Int) ≤ (j3 : Int) := Int.natCast_nonneg _
              have hB3z := hB3.size
              have hDr := Lib.hid (HD.out.trans (hB3.mono HD.out.size))
              have hLr3 := HLB.out.on hB3
              have HLr3 := Lib.hid hLr3
              obtain ⟨⟨aL', cL', p1, p2⟩, pf, pl⟩ := hLr3
              rw [hlen'.out] at p1 p2
              have HP3 := Lib.hid p2
              clear p2 pf
              by_cases h3 : j3 < pn
              · have hj31 : (j3 : Int) < (pn : Int) := by omega
                obtain ⟨l1, l2, l3⟩ := hlaw.out j3 h3
                obtain ⟨x0, hx0, ap, cp, Bp, rfl, ho⟩ := HV.out j3 h3
                have s0 := (cell_below hDr.out hg2 _).trans (hrow j3 _ hx0)
                have HO := Lib.hid (own_below ho hDr.out)
                have hpal := partAt_le 0 pn (j3 + 1) (by omega) (by omega)
                have hpas : partAt 0 pn j3 + (partOf L pn j3).length = partAt 0 pn (j3 + 1) := by
                  have h1 := partAt_succ 0 pn j3
                  have h2 := partOf_len L pn j3 (by omega) h3
                  rw [hlen'.out] at h2
                  rw [h1, h2, Nat.add_assoc]
                have hpas' := Lib.hid hpas
                have hpal' := Lib.hid hpal
                clear ho hx0 hpas hpal
                obtain ⟨d, hdd⟩ : ∃ d, (partOf L pn j3).length = d := ⟨_, rfl⟩
                rw [hdd] at s0 l1 l2 l3
                have HDD := Lib.hid hdd
                clear hdd
                have hdw : ¬ (W : Int) < (d : Int) := by omega
                have hdw2 : ¬ W < d := by omega
                have hdw3 : decide ((W : Int) < (d : Int)) = false := by simpa using hdw
                rcases j3 with _ | q3
                · rw [show ((0 : Nat) : Int) = 0 from rfl] at hj31 ⊢
                  clear hj30 l2 l3
                  go_wp2_with fail
                  refine WQ.region (C := fun w' => w'.cell? ⟨wr.heap.size, 0, none⟩ = some (.slice ap d cp) ∧ Below wr.heap.size wr w') (by kernel_rfl) (by kernel_rfl) ⟨cell_drew (by simp), by go_grown⟩ ?_
                  refine WQ.want (by rfl) (fun K hK => ?_)
                  refine ⟨.agg #[.slice ap d cp], fun w' hw' => ?_, hK _ ?_⟩
                  · obtain ⟨x0, x1⟩ := hw'
                    go_simp
                  clear hK K
                  (try simp only [Act.put, List.setIfInBounds_toArray, List.set_cons_zero, List.set_cons_succ])
                  refine WQ.want (by rfl) (fun K hK => ?_)
                  refine ⟨.int .i64 d, fun w' hw' => ?_, hK _ ?_⟩
                  · obtain ⟨x0, x1⟩ := hw'
                    go_simp
                    go_at_call 19
                    refine (lenAny _ _ _ _).mono ?_
                    rintro e w6 ⟨he, hb6⟩
                    exact ⟨he, kept_cell hb6 x0, x1.trans (hb6.mono x1.size)⟩
                  clear hK K
                  (try simp only [Act.put, List.setIfInBounds_toArray, List.set_cons_zero, List.set_cons_succ])
                  refine WQ.want (by rfl) (fun K hK => ?_)
                  refine BigFrame.quiet_move _ rfl (hK _ ?_)
                  clear hK K
                  (try simp only [Act.put, List.setIfInBounds_toArray, List.set_cons_zero, List.set_cons_succ])
                  refine WQ.want (by rfl) (fun K hK => ?_)
                  refine ⟨.bool false, fun w' hw' => ?_, hK _ ?_⟩
                  · obtain ⟨x0, x1⟩ := hw'
                    go_simp
                  clear hK K
                  (try simp only [Act.put, List.setIfInBounds_toArray, List.set_cons_zero, List.set_cons_succ])
                  refine WQ.want (by rfl) (fun K hK => ?_)
                  refine BigFrame.quiet_move _ rfl (hK _ ?_)
                  clear hK K
                  (try simp only [Act.put, List.setIfInBounds_toArray, List.set_cons_zero, List.set_cons_succ])
                  refine WQ.want (by rfl) (fun K hK => ?_)
                  refine BigFrame.quiet_move _ rfl (hK _ ?_)
                  clear hK K
                  (try simp only [Act.put, List.setIfInBounds_toArray, List.set_cons_zero, List.set_cons_succ])
                  refine WQ.want (by rfl) (fun K hK => ?_)
                  refine ⟨.bool false, fun w' hw' => ?_, hK _ ?_⟩
                  · obtain ⟨x0, x1⟩ := hw'
                    go_simp
                  clear hK K
                  (try simp only [Act.put, List.setIfInBounds_toArray, List.set_cons_zero, List.set_cons_succ])
                  refine WQ.want (by rfl) (fun K hK => ?_)
                  refine BigFrame.quiet_move _ rfl (hK _ ?_)
                  clear hK K
                  (try simp only [Act.put, List.setIfInBounds_toArray, List.set_cons_zero, List.set_cons_succ])
                  refine WQ.skip (by rfl) ?_
                  (try simp only [Act.put, List.setIfInBounds_toArray, List.set_cons_zero, List.set_cons_succ])
                  refine WQ.skip (by rfl) ?_
                  (try simp only [Act.put, List.setIfInBounds_toArray, List.set_cons_zero, List.set_cons_succ])
                  refine WQ.skip (by rfl) ?_
                  (try simp only [Act.put, List.setIfInBounds_toArray, List.set_cons_zero, List.set_cons_succ])
                  refine WQ.skip (by rfl) ?_
                  (try simp only [Act.put, List.setIfInBounds_toArray, List.set_cons_zero, List.set_cons_succ])
                  refine WQ.skip (by rfl) ?_
                  (try simp only [Act.put, List.setIfInBounds_toArray, List.set_cons_zero, List.set_cons_succ])
                  refine WQ.skip (by rfl) ?_
                  (try simp only [Act.put, List.setIfInBounds_toArray, List.set_cons_zero, List.set_cons_succ])
                  refine WQ.skip (by rfl) ?_
                  (try simp only [Act.put, List.setIfInBounds_toArray, List.set_cons_zero, List.set_cons_succ])
                  refine WQ.skip (by rfl) ?_
                  (try simp only [Act.put, List.setIfInBounds_toArray, List.set_cons_zero, List.set_cons_succ])
                  refine WQ.skip (by rfl) ?_
                  (try simp only [Act.put, List.setIfInBounds_toArray, List.set_cons_zero, List.set_cons_succ])
                  refine WQ.skip (by rfl) ?_
                  (try simp only [Act.put, List.setIfInBounds_toArray, List.set_cons_zero, List.set_cons_succ])
                  refine WQ.skip (by rfl) ?_
                  (try simp only [Act.put, List.setIfInBounds_toArray, List.set_cons_zero, List.set_cons_succ])
                  refine WQ.skip (by rfl) ?_
                  (try simp only [Act.put, List.setIfInBounds_toArray, List.set_cons_zero, List.set_cons_succ])
                  refine WQ.skip (by rfl) ?_
                  (try simp only [Act.put, List.setIfInBounds_toArray, List.set_cons_zero, List.set_cons_succ])
                  refine WQ.skip (by rfl) ?_
                  (try simp only [Act.put, List.setIfInBounds_toArray, List.set_cons_zero, List.set_cons_succ])
                  refine WQ.skip (by rfl) ?_
                  (try simp only [Act.put, List.setIfInBounds_toArray, List.set_cons_zero, List.set_cons_succ])
                  refine WQ.skip (by rfl) ?_
                  (try simp only [Act.put, List.setIfInBounds_toArray, List.set_cons_zero, List.set_cons_succ])
                  refine WQ.skip (by rfl) ?_
                  (try simp only [Act.put, List.setIfInBounds_toArray, List.set_cons_zero, List.set_cons_succ])
                  refine WQ.skip (by rfl) ?_
                  (try simp only [Act.put, List.setIfInBounds_toArray, List.set_cons_zero, List.set_cons_succ])
                  refine WQ.skip (by rfl) ?_
                  (try simp only [Act.put, List.setIfInBounds_toArray, List.set_cons_zero, List.set_cons_succ])
                  refine WQ.want (by rfl) (fun K hK => ?_)
                  refine ⟨.bool false, fun w' hw' => ?_, hK _ ?_⟩
                  · obtain ⟨x0, x1⟩ := hw'
                    go_simp
                  clear hK K
                  (try simp only [Act.put, List.setIfInBounds_toArray, List.set_cons_zero, List.set_cons_succ])
                  refine WQ.want (by rfl) (fun K hK => ?_)
                  refine ⟨.bool false, fun w' hw' => ?_, hK _ ?_⟩
                  · obtain ⟨x0, x1⟩ := hw'
                    go_simp
                  clear hK K
                  (try simp only [Act.put, List.setIfInBounds_toArray, List.set_cons_zero, List.set_cons_succ])
                  refine WQ.done ?_
                  rintro w6 ⟨z0, hE⟩
                  obtain ⟨wC, hwC⟩ : ∃ wC, wC = wr := ⟨_, rfl⟩
                  subst hwC
                  have hbx := BoxE.of_own (own_below HO.out hE)
                  rw [HDD.out] at hbx
                  have p4 := kept_cell hE p1
                  have HP4 := Lib.hid (HP3.out.kept hE (Nat.le_refl _))
                  have hEz := hE.size
                  have hdl : d ≤ 69 := by have h1 := HDD.out; have h2 := hpas'.out; have h3 := hpal'.out; omega
                  go_wp2_with fail
                  refine (thread (listE_next ap d cp (partOf L pn 0) w6 HDD.out.symm hbx (by rw [HDD.out]; omega)) w6.heap.size w6 (by go_grown) (by go_grown)).mono ?_
                  rintro e w7 ⟨⟨a7, c7, rfl, hown7⟩, hX7, -, -, -, hz7⟩
                  have p5 := kept_cell hX7 p4
                  have HP5 := Lib.hid (HP4.out.kept hX7 (Nat.le_refl _))
                  have H7 := Lib.hid hown7
                  have hC7 := hE.trans (hX7.mono hEz)
                  have hneq := fun a b w => ent_neq_same a b w
                  have hgrd := fun op x y xs ys w => ent_guard op x y xs ys w
                  clear hbx p4 HP4 hX7 hown7 z0 HO
                  go_wp2_with fail
                  go_loopw [116, 11] (fun i s wr => ∃ (r x : Nat), i = .int .i64 r ∧ r ≤ d ∧ s = .int .i64 x ∧ x = partAt 0 pn 0 + r ∧ Below w7.heap.size w7 wr) (fun i _ _ => d - (intOf i).toNat)
                  case atStart => exact ⟨0, _, rfl, Nat.zero_le _, rfl, rfl, Below.refl _ _⟩
                  case round =>
                    obtain ⟨r, x, rfl, hr, rfl, hx, hB4⟩ := hrel
                    have hr0 : (0 : Int) ≤ (r : Int) := Int.natCast_nonneg _
                    have hx0 : (0 : Int) ≤ (x : Int) := Int.natCast_nonneg _
                    have hX := Lib.hid hx
                    clear hx
                    by_cases hrd : r < d
                    · have hr1 : (r : Int) < (d : Int) := by omega
                      have hrX : r < (partOf L pn 0).length := by rw [HDD.out]; exact hrd
                      have hxl : x < 0 := by have h1 := HDD.out; have h2 := hpas'.out; have h3 := hpal'.out; have h4 := hX.out; omega
                      have hxL : x < L.length := by rw [hlen'.out]; exact hxl
                      exact absurd hxl (Nat.not_lt_zero _)
                    · obtain rfl : r = d := by omega
                      have hxe : x = partAt 0 pn (0 + 1) := by have h1 := HDD.out; have h2 := hpas'.out; have h4 := hX.out; omega
                      have hBe := hB3.trans ((hC7.trans (hB4.mono (Nat.le_trans hEz hz7))).mono hB3z)
                      go_wp2_with fail
                      go_roundw
                      (case rel => exact (⟨0 + 1, by go_num, by omega, by rw [hxe], hBe⟩))
                      (case measure => first | (simp [intOf]; done) | (simp [intOf]; omega))
                · have hq30 : (0 : Int) ≤ (q3 : Int) := Int.natCast_nonneg _
                  have hwq : IntKind.i64.wrap (q3 : Int) = (q3 : Int) := IntWalk.i64_in _ (by omega)
                  obtain ⟨xq, hxq, aq, cq, Bq, rfl, -⟩ := HV.out q3 (by omega)
                  obtain ⟨xz, hxz, az, cz, Bz, rfl, -⟩ := HV.out 0 (by omega)
                  have sq := (cell_below hDr.out hg2 _).trans (hrow q3 _ hxq)
                  have sz := (cell_below hDr.out hg2 _).trans (hrow 0 _ hxz)
                  have l2' := l2 (by omega)
                  rw [Nat.add_sub_cancel] at l2'
                  obtain ⟨dq, hdq⟩ : ∃ dq, (partOf L pn q3).length = dq := ⟨_, rfl⟩
                  obtain ⟨dz, hdz⟩ : ∃ dz, (partOf L pn 0).length = dz := ⟨_, rfl⟩
                  rw [hdq] at sq l2'
                  rw [hdz] at sz l3
                  have e1 : ¬ (dq : Int) < (d : Int) := by omega
                  have e1b : ¬ dq < d := by omega
                  have e1c : decide ((dq : Int) < (d : Int)) = false := by simpa using e1
                  have e2 : ¬ 1 < (dz : Int) - (d : Int) := by omega
                  have e2c : decide (1 < (dz : Int) - (d : Int)) = false := by simpa using e2
                  have hpn0 : (0 : Int) < (pn : Int) := by omega
                  have hq31 : (q3 : Int) < (pn : Int) := by omega
                  have e3 : IntKind.i64.wrap ((dz : Int) - (d : Int)) = (dz : Int) - (d : Int) := by
                    have hz1 := partOf_len L pn 0 (by omega) (by omega)
                    have hz2 := Nat.div_le_self L.length pn
                    rw [hlen'.out] at hz1 hz2
                    generalize 0 / pn = qq at *
                    refine IntWalk.i64_in _ ⟨?_, ?_⟩
                    · split at hz1 <;> omega
                    · split at hz1 <;> omega
                  clear hxq hxz hdq hdz l2 l2' l3
                  go_wp2_with fail
                  have g0 := cell_past (.cells #[.slice ap d cp] 45) sq
                  have g1 := cell_past (.cells #[.slice ap d cp] 45) sz
                  refine WQ.region (C := fun w' => w'.cell? ⟨wr.heap.size, 0, none⟩ = some (.slice ap d cp) ∧ w'.cell? ⟨g, q3, none⟩ = some (.slice aq dq cq) ∧ w'.cell? ⟨g, 0, none⟩ = some (.slice az dz cz) ∧ Below wr.heap.size wr w') (by kernel_rfl) (by kernel_rfl) ⟨cell_drew (by simp), cell_drew g0, cell_drew g1, by go_grown⟩ ?_
                  refine WQ.want (by rfl) (fun K hK => ?_)
                  refine ⟨.agg #[.slice ap d cp], fun w' hw' => ?_, hK _ ?_⟩
                  · obtain ⟨x0, x1, x2, x3⟩ := hw'
                    go_simp
                  clear hK K
                  (try simp only [Act.put, List.setIfInBounds_toArray, List.set_cons_zero, List.set_cons_succ])
                  refine WQ.want (by rfl) (fun K hK => ?_)
                  refine ⟨.int .i64 d, fun w' hw' => ?_, hK _ ?_⟩
                  · obtain ⟨x0, x1, x2, x3⟩ := hw'
                    go_simp
                    go_at_call 19
                    refine (lenAny _ _ _ _).mono ?_
                    rintro e w6 ⟨he, hb6⟩
                    exact ⟨he, kept_cell hb6 x0, kept_cell hb6 x1, kept_cell hb6 x2, x3.trans (hb6.mono x3.size)⟩
                  clear hK K
                  (try simp only [Act.put, List.setIfInBounds_toArray, List.set_cons_zero, List.set_cons_succ])
                  refine WQ.want (by rfl) (fun K hK => ?_)
                  refine BigFrame.quiet_move _ rfl (hK _ ?_)
                  clear hK K
                  (try simp only [Act.put, List.setIfInBounds_toArray, List.set_cons_zero, List.set_cons_succ])
                  refine WQ.want (by rfl) (fun K hK => ?_)
                  refine ⟨.bool false, fun w' hw' => ?_, hK _ ?_⟩
                  · obtain ⟨x0, x1, x2, x3⟩ := hw'
                    go_simp
                  clear hK K
                  (try simp only [Act.put, List.setIfInBounds_toArray, List.set_cons_zero, List.set_cons_succ])
                  refine WQ.want (by rfl) (fun K hK => ?_)
                  refine BigFrame.quiet_move _ rfl (hK _ ?_)
                  clear hK K
                  (try simp only [Act.put, List.setIfInBounds_toArray, List.set_cons_zero, List.set_cons_succ])
                  refine WQ.want (by rfl) (fun K hK => ?_)
                  refine BigFrame.quiet_move _ rfl (hK _ ?_)
                  clear hK K
                  (try simp only [Act.put, List.setIfInBounds_toArray, List.set_cons_zero, List.set_cons_succ])
                  refine WQ.want (by rfl) (fun K hK => ?_)
                  refine ⟨.bool true, fun w' hw' => ?_, hK _ ?_⟩
                  · obtain ⟨x0, x1, x2, x3⟩ := hw'
                    go_simp
                  clear hK K
                  (try simp only [Act.put, List.setIfInBounds_toArray, List.set_cons_zero, List.set_cons_succ])
                  refine WQ.want (by rfl) (fun K hK => ?_)
                  refine BigFrame.quiet_move _ rfl (hK _ ?_)
                  clear hK K
                  (try simp only [Act.put, List.setIfInBounds_toArray, List.set_cons_zero, List.set_cons_succ])
                  refine WQ.want (by rfl) (fun K hK => ?_)
                  refine ⟨.agg #[.slice ap d cp], fun w' hw' => ?_, hK _ ?_⟩
                  · obtain ⟨x0, x1, x2, x3⟩ := hw'
                    go_simp
                  clear hK K
                  (try simp only [Act.put, List.setIfInBounds_toArray, List.set_cons_zero, List.set_cons_succ])
                  refine WQ.want (by rfl) (fun K hK => ?_)
                  refine ⟨.int .i64 d, fun w' hw' => ?_, hK _ ?_⟩
                  · obtain ⟨x0, x1, x2, x3⟩ := hw'
                    go_simp
                    go_at_call 19
                    refine (lenAny _ _ _ _).mono ?_
                    rintro e w6 ⟨he, hb6⟩
                    exact ⟨he, kept_cell hb6 x0, kept_cell hb6 x1, kept_cell hb6 x2, x3.trans (hb6.mono x3.size)⟩
                  clear hK K
                  (try simp only [Act.put, List.setIfInBounds_toArray, List.set_cons_zero, List.set_cons_succ])
                  refine WQ.want (by rfl) (fun K hK => ?_)
                  refine BigFrame.quiet_move _ rfl (hK _ ?_)
                  clear hK K
                  (try simp only [Act.put, List.setIfInBounds_toArray, List.set_cons_zero, List.set_cons_succ])
                  refine WQ.want (by rfl) (fun K hK => ?_)
                  refine BigFrame.quiet_move _ rfl (hK _ ?_)
                  clear hK K
                  (try simp only [Act.put, List.setIfInBounds_toArray, List.set_cons_zero, List.set_cons_succ])
                  refine WQ.want (by rfl) (fun K hK => ?_)
                  refine ⟨.int .i64 q3, fun w' hw' => ?_, hK _ ?_⟩
                  · obtain ⟨x0, x1, x2, x3⟩ := hw'
                    go_simp
                  clear hK K
                  (try simp only [Act.put, List.setIfInBounds_toArray, List.set_cons_zero, List.set_cons_succ])
                  refine WQ.want (by rfl) (fun K hK => ?_)
                  refine ⟨.pointer (some ⟨g, q3, none⟩), fun w' hw' => ?_, hK _ ?_⟩
                  · obtain ⟨x0, x1, x2, x3⟩ := hw'
                    go_simp
                  clear hK K
                  (try simp only [Act.put, List.setIfInBounds_toArray, List.set_cons_zero, List.set_cons_succ])
                  refine WQ.want (by rfl) (fun K hK => ?_)
                  refine ⟨.agg #[.slice aq dq cq], fun w' hw' => ?_, hK _ ?_⟩
                  · obtain ⟨x0, x1, x2, x3⟩ := hw'
                    go_simp
                  clear hK K
                  (try simp only [Act.put, List.setIfInBounds_toArray, List.set_cons_zero, List.set_cons_succ])
                  refine WQ.want (by rfl) (fun K hK => ?_)
                  refine ⟨.int .i64 dq, fun w' hw' => ?_, hK _ ?_⟩
                  · obtain ⟨x0, x1, x2, x3⟩ := hw'
                    go_simp
                    go_at_call 19
                    refine (lenAny _ _ _ _).mono ?_
                    rintro e w6 ⟨he, hb6⟩
                    exact ⟨he, kept_cell hb6 x0, kept_cell hb6 x1, kept_cell hb6 x2, x3.trans (hb6.mono x3.size)⟩
                  clear hK K
                  (try simp only [Act.put, List.setIfInBounds_toArray, List.set_cons_zero, List.set_cons_succ])
                  refine WQ.want (by rfl) (fun K hK => ?_)
                  refine ⟨.bool false, fun w' hw' => ?_, hK _ ?_⟩
                  · obtain ⟨x0, x1, x2, x3⟩ := hw'
                    go_simp
                  clear hK K
                  (try simp only [Act.put, List.setIfInBounds_toArray, List.set_cons_zero, List.set_cons_succ])
                  refine WQ.want (by rfl) (fun K hK => ?_)
                  refine BigFrame.quiet_move _ rfl (hK _ ?_)
                  clear hK K
                  (try simp only [Act.put, List.setIfInBounds_toArray, List.set_cons_zero, List.set_cons_succ])
                  refine WQ.want (by rfl) (fun K hK => ?_)
                  refine BigFrame.quiet_move _ rfl (hK _ ?_)
                  clear hK K
                  (try simp only [Act.put, List.setIfInBounds_toArray, List.set_cons_zero, List.set_cons_succ])
                  refine WQ.want (by rfl) (fun K hK => ?_)
                  refine ⟨.pointer (some ⟨g, 0, none⟩), fun w' hw' => ?_, hK _ ?_⟩
                  · obtain ⟨x0, x1, x2, x3⟩ := hw'
                    go_simp
                  clear hK K
                  (try simp only [Act.put, List.setIfInBounds_toArray, List.set_cons_zero, List.set_cons_succ])
                  refine WQ.want (by rfl) (fun K hK => ?_)
                  refine ⟨.agg #[.slice az dz cz], fun w' hw' => ?_, hK _ ?_⟩
                  · obtain ⟨x0, x1, x2, x3⟩ := hw'
                    go_simp
                  clear hK K
                  (try simp only [Act.put, List.setIfInBounds_toArray, List.set_cons_zero, List.set_cons_succ])
                  refine WQ.want (by rfl) (fun K hK => ?_)
                  refine ⟨.int .i64 dz, fun w' hw' => ?_, hK _ ?_⟩
                  · obtain ⟨x0, x1, x2, x3⟩ := hw'
                    go_simp
                    go_at_call 19
                    refine (lenAny _ _ _ _).mono ?_
                    rintro e w6 ⟨he, hb6⟩
                    exact ⟨he, kept_cell hb6 x0, kept_cell hb6 x1, kept_cell hb6 x2, x3.trans (hb6.mono x3.size)⟩
                  clear hK K
                  (try simp only [Act.put, List.setIfInBounds_toArray, List.set_cons_zero, List.set_cons_succ])
                  refine WQ.want (by rfl) (fun K hK => ?_)
                  refine ⟨.agg #[.slice ap d cp], fun w' hw' => ?_, hK _ ?_⟩
                  · obtain ⟨x0, x1, x2, x3⟩ := hw'
                    go_simp
                  clear hK K
                  (try simp only [Act.put, List.setIfInBounds_toArray, List.set_cons_zero, List.set_cons_succ])
                  refine WQ.want (by rfl) (fun K hK => ?_)
                  refine ⟨.int .i64 d, fun w' hw' => ?_, hK _ ?_⟩
                  · obtain ⟨x0, x1, x2, x3⟩ := hw'
                    go_simp
                    go_at_call 19
                    refine (lenAny _ _ _ _).mono ?_
                    rintro e w6 ⟨he, hb6⟩
                    exact ⟨he, kept_cell hb6 x0, kept_cell hb6 x1, kept_cell hb6 x2, x3.trans (hb6.mono x3.size)⟩
                  clear hK K
                  (try simp only [Act.put, List.setIfInBounds_toArray, List.set_cons_zero, List.set_cons_succ])
                  refine WQ.want (by rfl) (fun K hK => ?_)
                  refine ⟨.int .i64 ((dz : Int) - (d : Int)), fun w' hw' => ?_, hK _ ?_⟩
                  · obtain ⟨x0, x1, x2, x3⟩ := hw'
                    go_simp
                  clear hK K
                  (try simp only [Act.put, List.setIfInBounds_toArray, List.set_cons_zero, List.set_cons_succ])
                  refine WQ.want (by rfl) (fun K hK => ?_)
                  refine ⟨.bool false, fun w' hw' => ?_, hK _ ?_⟩
                  · obtain ⟨x0, x1, x2, x3⟩ := hw'
                    go_simp
                  clear hK K
                  (try simp only [Act.put, List.setIfInBounds_toArray, List.set_cons_zero, List.set_cons_succ])
                  refine WQ.want (by rfl) (fun K hK => ?_)
                  refine ⟨.bool false, fun w' hw' => ?_, hK _ ?_⟩
                  · obtain ⟨x0, x1, x2, x3⟩ := hw'
                    go_simp
                  clear hK K
                  (try simp only [Act.put, List.setIfInBounds_toArray, List.set_cons_zero, List.set_cons_succ])
                  refine WQ.want (by rfl) (fun K hK => ?_)
                  refine ⟨.bool false, fun w' hw' => ?_, hK _ ?_⟩
                  · obtain ⟨x0, x1, x2, x3⟩ := hw'
                    go_simp
                  clear hK K
                  (try simp only [Act.put, List.setIfInBounds_toArray, List.set_cons_zero, List.set_cons_succ])
                  refine WQ.want (by rfl) (fun K hK => ?_)
                  refine ⟨.bool false, fun w' hw' => ?_, hK _ ?_⟩
                  · obtain ⟨x0, x1, x2, x3⟩ := hw'
                    go_simp
                  clear hK K
                  (try simp only [Act.put, List.setIfInBounds_toArray, List.set_cons_zero, List.set_cons_succ])
                  refine WQ.done ?_
                  rintro w6 ⟨z0, -, -, hE⟩
                  obtain ⟨wC, hwC⟩ : ∃ wC, wC = wr := ⟨_, rfl⟩
                  subst hwC
                  have hbx := BoxE.of_own (own_below HO.out hE)
                  rw [HDD.out] at hbx
                  have p4 := kept_cell hE p1
                  have HP4 := Lib.hid (HP3.out.kept hE (Nat.le_refl _))
                  have hEz := hE.size
                  have hdl : d ≤ 69 := by have h1 := HDD.out; have h2 := hpas'.out; have h3 := hpal'.out; omega
                  go_wp2_with fail
                  refine (thread (listE_next ap d cp (partOf L pn (q3 + 1)) w6 HDD.out.symm hbx (by rw [HDD.out]; omega)) w6.heap.size w6 (by go_grown) (by go_grown)).mono ?_
                  rintro e w7 ⟨⟨a7, c7, rfl, hown7⟩, hX7, -, -, -, hz7⟩
                  have p5 := kept_cell hX7 p4
                  have HP5 := Lib.hid (HP4.out.kept hX7 (Nat.le_refl _))
                  have H7 := Lib.hid hown7
                  have hC7 := hE.trans (hX7.mono hEz)
                  have hneq := fun a b w => ent_neq_same a b w
                  have hgrd := fun op x y xs ys w => ent_guard op x y xs ys w
                  clear hbx p4 HP4 hX7 hown7 z0 HO
                  go_wp2_with fail
                  go_loopw [116, 11] (fun i s wr => ∃ (r x : Nat), i = .int .i64 r ∧ r ≤ d ∧ s = .int .i64 x ∧ x = partAt 0 pn (q3 + 1) + r ∧ Below w7.heap.size w7 wr) (fun i _ _ => d - (intOf i).toNat)
                  case atStart => exact ⟨0, _, rfl, Nat.zero_le _, rfl, rfl, Below.refl _ _⟩
                  case round =>
                    obtain ⟨r, x, rfl, hr, rfl, hx, hB4⟩ := hrel
                    have hr0 : (0 : Int) ≤ (r : Int) := Int.natCast_nonneg _
                    have hx0 : (0 : Int) ≤ (x : Int) := Int.natCast_nonneg _
                    have hX := Lib.hid hx
                    clear hx
                    by_cases hrd : r < d
                    · have hr1 : (r : Int) < (d : Int) := by omega
                      have hrX : r < (partOf L pn (q3 + 1)).length := by rw [HDD.out]; exact hrd
                      have hxl : x < 0 := by have h1 := HDD.out; have h2 := hpas'.out; have h3 := hpal'.out; have h4 := hX.out; omega
                      have hxL : x < L.length := by rw [hlen'.out]; exact hxl
                      exact absurd hxl (Nat.not_lt_zero _)
                    · obtain rfl : r = d := by omega
                      have hxe : x = partAt 0 pn ((q3 + 1) + 1) := by have h1 := HDD.out; have h2 := hpas'.out; have h4 := hX.out; omega
                      have hBe := hB3.trans ((hC7.trans (hB4.mono (Nat.le_trans hEz hz7))).mono hB3z)
                      go_wp2_with fail
                      go_roundw
                      (case rel => exact (⟨(q3 + 1) + 1, by go_num, by omega, by rw [hxe], hBe⟩))
                      (case measure => first | (simp [intOf]; done) | (simp [intOf]; omega))
              · obtain rfl : j3 = pn := by omega
                rw [partAt_all 0 j3 hpp]
                have hBe := hAB.trans (hB3.mono hAz)
                go_wp2_with (go_at_call 19; refine (lenAny _ _ _ _).mono ?_; rintro e w6 ⟨rfl, hb6⟩; have hBe := hBe.trans (hb6.mono hBe.size))
                go_roundw
                (case rel => exact (⟨j + 1, by go_num, by omega, hBe⟩))
                (case measure => first | (simp [intOf]; done) | (simp [intOf]; omega))
          | false =>
            have hne0 : ¬ len = 0 := by simpa using hbz
            have hq1 : tmax 1 (wrap64 (((len : Int) - 1) / (W : Int) + 1)) = (pn : Int) := by rw [← Int.tdiv_eq_ediv_of_nonneg (by omega)]; exact hq
            clear hp1 hbz hq
            go_wp2_with (first
              | (go_at_call 18; refine (wakesE_any _).mono ?_; rintro e w3 ⟨rfl, hb3⟩; have p3 := kept_cell hb3 p3; have hd := hd.trans (hb3.mono hd.size))
              | (go_at_call 19; refine (lenAny _ _ _ _).mono ?_; rintro e w3 ⟨rfl, hb3⟩; have p3 := kept_cell hb3 p3; have hd := hd.trans (hb3.mono hd.size)))
            have hAB := hBj.trans ((hX2.mono hBj.size).trans (hd.mono (Nat.le_trans hBj.size hX2.size)))
            have hAz := hAB.size
            obtain ⟨wB, hwB⟩ : ∃ wB, wB = w3 := ⟨_, rfl⟩
            subst hwB
            obtain ⟨g, rfl, -, hg2, hrow⟩ := own_at HV1.out (by omega)
            have HD := Lib.hid hd
            have HLB := Lib.hid (HL2.out.on hd)
            clear hd p3 HL2 hX2 HLb hza
            go_loopw [79, 11] (fun i s wr => ∃ j : Nat, i = .int .i64 j ∧ j ≤ pn ∧ s = .int .i64 (partAt len pn j : Nat) ∧ Below wB.heap.size wB wr) (fun i _ _ => pn - (intOf i).toNat)
            case atStart => exact ⟨0, rfl, Nat.zero_le _, by rw [partAt_zero]; rfl, Below.refl _ _⟩
            case round =>
              obtain ⟨j3, rfl, hj3, rfl, hB3⟩ := hrel
              have hj30 : (0 : Int) ≤ (j3 : Int) := Int.natCast_nonneg _
              have hB3z := hB3.size
              have hDr := Lib.hid (HD.out.trans (hB3.mono HD.out.size))
              have hLr3 := HLB.out.on hB3
              have HLr3 := Lib.hid hLr3
              obtain ⟨⟨aL', cL', p1, p2⟩, pf, pl⟩ := hLr3
              rw [hlen'.out] at p1 p2
              have HP3 := Lib.hid p2
              clear p2 pf
              by_cases h3 : j3 < pn
              · have hj31 : (j3 : Int) < (pn : Int) := by omega
                obtain ⟨l1, l2, l3⟩ := hlaw.out j3 h3
                obtain ⟨x0, hx0, ap, cp, Bp, rfl, ho⟩ := HV.out j3 h3
                have s0 := (cell_below hDr.out hg2 _).trans (hrow j3 _ hx0)
                have HO := Lib.hid (own_below ho hDr.out)
                have hpal := partAt_le len pn (j3 + 1) (by omega) (by omega)
                have hpas : partAt len pn j3 + (partOf L pn j3).length = partAt len pn (j3 + 1) := by
                  have h1 := partAt_succ len pn j3
                  have h2 := partOf_len L pn j3 (by omega) h3
                  rw [hlen'.out] at h2
                  rw [h1, h2, Nat.add_assoc]
                have hpas' := Lib.hid hpas
                have hpal' := Lib.hid hpal
                clear ho hx0 hpas hpal
                obtain ⟨d, hdd⟩ : ∃ d, (partOf L pn j3).length = d := ⟨_, rfl⟩
                rw [hdd] at s0 l1 l2 l3
                have HDD := Lib.hid hdd
                clear hdd
                have hdw : ¬ (W : Int) < (d : Int) := by omega
                have hdw2 : ¬ W < d := by omega
                have hdw3 : decide ((W : Int) < (d : Int)) = false := by simpa using hdw
                rcases j3 with _ | q3
                · rw [show ((0 : Nat) : Int) = 0 from rfl] at hj31 ⊢
                  clear hj30 l2 l3
                  go_wp2_with fail
                  refine WQ.region (C := fun w' => w'.cell? ⟨wr.heap.size, 0, none⟩ = some (.slice ap d cp) ∧ Below wr.heap.size wr w') (by kernel_rfl) (by kernel_rfl) ⟨cell_drew (by simp), by go_grown⟩ ?_
                  refine WQ.want (by rfl) (fun K hK => ?_)
                  refine ⟨.agg #[.slice ap d cp], fun w' hw' => ?_, hK _ ?_⟩
                  · obtain ⟨x0, x1⟩ := hw'
                    go_simp
                  clear hK K
                  (try simp only [Act.put, List.setIfInBounds_toArray, List.set_cons_zero, List.set_cons_succ])
                  refine WQ.want (by rfl) (fun K hK => ?_)
                  refine ⟨.int .i64 d, fun w' hw' => ?_, hK _ ?_⟩
                  · obtain ⟨x0, x1⟩ := hw'
                    go_simp
                    go_at_call 19
                    refine (lenAny _ _ _ _).mono ?_
                    rintro e w6 ⟨he, hb6⟩
                    exact ⟨he, kept_cell hb6 x0, x1.trans (hb6.mono x1.size)⟩
                  clear hK K
                  (try simp only [Act.put, List.setIfInBounds_toArray, List.set_cons_zero, List.set_cons_succ])
                  refine WQ.want (by rfl) (fun K hK => ?_)
                  refine BigFrame.quiet_move _ rfl (hK _ ?_)
                  clear hK K
                  (try simp only [Act.put, List.setIfInBounds_toArray, List.set_cons_zero, List.set_cons_succ])
                  refine WQ.want (by rfl) (fun K hK => ?_)
                  refine ⟨.bool false, fun w' hw' => ?_, hK _ ?_⟩
                  · obtain ⟨x0, x1⟩ := hw'
                    go_simp
                  clear hK K
                  (try simp only [Act.put, List.setIfInBounds_toArray, List.set_cons_zero, List.set_cons_succ])
                  refine WQ.want (by rfl) (fun K hK => ?_)
                  refine BigFrame.quiet_move _ rfl (hK _ ?_)
                  clear hK K
                  (try simp only [Act.put, List.setIfInBounds_toArray, List.set_cons_zero, List.set_cons_succ])
                  refine WQ.want (by rfl) (fun K hK => ?_)
                  refine BigFrame.quiet_move _ rfl (hK _ ?_)
                  clear hK K
                  (try simp only [Act.put, List.setIfInBounds_toArray, List.set_cons_zero, List.set_cons_succ])
                  refine WQ.want (by rfl) (fun K hK => ?_)
                  refine ⟨.bool false, fun w' hw' => ?_, hK _ ?_⟩
                  · obtain ⟨x0, x1⟩ := hw'
                    go_simp
                  clear hK K
                  (try simp only [Act.put, List.setIfInBounds_toArray, List.set_cons_zero, List.set_cons_succ])
                  refine WQ.want (by rfl) (fun K hK => ?_)
                  refine BigFrame.quiet_move _ rfl (hK _ ?_)
                  clear hK K
                  (try simp only [Act.put, List.setIfInBounds_toArray, List.set_cons_zero, List.set_cons_succ])
                  refine WQ.skip (by rfl) ?_
                  (try simp only [Act.put, List.setIfInBounds_toArray, List.set_cons_zero, List.set_cons_succ])
                  refine WQ.skip (by rfl) ?_
                  (try simp only [Act.put, List.setIfInBounds_toArray, List.set_cons_zero, List.set_cons_succ])
                  refine WQ.skip (by rfl) ?_
                  (try simp only [Act.put, List.setIfInBounds_toArray, List.set_cons_zero, List.set_cons_succ])
                  refine WQ.skip (by rfl) ?_
                  (try simp only [Act.put, List.setIfInBounds_toArray, List.set_cons_zero, List.set_cons_succ])
                  refine WQ.skip (by rfl) ?_
                  (try simp only [Act.put, List.setIfInBounds_toArray, List.set_cons_zero, List.set_cons_succ])
                  refine WQ.skip (by rfl) ?_
                  (try simp only [Act.put, List.setIfInBounds_toArray, List.set_cons_zero, List.set_cons_succ])
                  refine WQ.skip (by rfl) ?_
                  (try simp only [Act.put, List.setIfInBounds_toArray, List.set_cons_zero, List.set_cons_succ])
                  refine WQ.skip (by rfl) ?_
                  (try simp only [Act.put, List.setIfInBounds_toArray, List.set_cons_zero, List.set_cons_succ])
                  refine WQ.skip (by rfl) ?_
                  (try simp only [Act.put, List.setIfInBounds_toArray, List.set_cons_zero, List.set_cons_succ])
                  refine WQ.skip (by rfl) ?_
                  (try simp only [Act.put, List.setIfInBounds_toArray, List.set_cons_zero, List.set_cons_succ])
                  refine WQ.skip (by rfl) ?_
                  (try simp only [Act.put, List.setIfInBounds_toArray, List.set_cons_zero, List.set_cons_succ])
                  refine WQ.skip (by rfl) ?_
                  (try simp only [Act.put, List.setIfInBounds_toArray, List.set_cons_zero, List.set_cons_succ])
                  refine WQ.skip (by rfl) ?_
                  (try simp only [Act.put, List.setIfInBounds_toArray, List.set_cons_zero, List.set_cons_succ])
                  refine WQ.skip (by rfl) ?_
                  (try simp only [Act.put, List.setIfInBounds_toArray, List.set_cons_zero, List.set_cons_succ])
                  refine WQ.skip (by rfl) ?_
                  (try simp only [Act.put, List.setIfInBounds_toArray, List.set_cons_zero, List.set_cons_succ])
                  refine WQ.skip (by rfl) ?_
                  (try simp only [Act.put, List.setIfInBounds_toArray, List.set_cons_zero, List.set_cons_succ])
                  refine WQ.skip (by rfl) ?_
                  (try simp only [Act.put, List.setIfInBounds_toArray, List.set_cons_zero, List.set_cons_succ])
                  refine WQ.skip (by rfl) ?_
                  (try simp only [Act.put, List.setIfInBounds_toArray, List.set_cons_zero, List.set_cons_succ])
                  refine WQ.skip (by rfl) ?_
                  (try simp only [Act.put, List.setIfInBounds_toArray, List.set_cons_zero, List.set_cons_succ])
                  refine WQ.want (by rfl) (fun K hK => ?_)
                  refine ⟨.bool false, fun w' hw' => ?_, hK _ ?_⟩
                  · obtain ⟨x0, x1⟩ := hw'
                    go_simp
                  clear hK K
                  (try simp only [Act.put, List.setIfInBounds_toArray, List.set_cons_zero, List.set_cons_succ])
                  refine WQ.want (by rfl) (fun K hK => ?_)
                  refine ⟨.bool false, fun w' hw' => ?_, hK _ ?_⟩
                  · obtain ⟨x0, x1⟩ := hw'
                    go_simp
                  clear hK K
                  (try simp only [Act.put, List.setIfInBounds_toArray, List.set_cons_zero, List.set_cons_succ])
                  refine WQ.done ?_
                  rintro w6 ⟨z0, hE⟩
                  obtain ⟨wC, hwC⟩ : ∃ wC, wC = wr := ⟨_, rfl⟩
                  subst hwC
                  have hbx := BoxE.of_own (own_below HO.out hE)
                  rw [HDD.out] at hbx
                  have p4 := kept_cell hE p1
                  have HP4 := Lib.hid (HP3.out.kept hE (Nat.le_refl _))
                  have hEz := hE.size
                  have hdl : d ≤ 69 := by have h1 := HDD.out; have h2 := hpas'.out; have h3 := hpal'.out; omega
                  go_wp2_with fail
                  refine (thread (listE_next ap d cp (partOf L pn 0) w6 HDD.out.symm hbx (by rw [HDD.out]; omega)) w6.heap.size w6 (by go_grown) (by go_grown)).mono ?_
                  rintro e w7 ⟨⟨a7, c7, rfl, hown7⟩, hX7, -, -, -, hz7⟩
                  have p5 := kept_cell hX7 p4
                  have HP5 := Lib.hid (HP4.out.kept hX7 (Nat.le_refl _))
                  have H7 := Lib.hid hown7
                  have hC7 := hE.trans (hX7.mono hEz)
                  have hneq := fun a b w => ent_neq_same a b w
                  have hgrd := fun op x y xs ys w => ent_guard op x y xs ys w
                  clear hbx p4 HP4 hX7 hown7 z0 HO
                  go_wp2_with fail
                  go_loopw [116, 11] (fun i s wr => ∃ (r x : Nat), i = .int .i64 r ∧ r ≤ d ∧ s = .int .i64 x ∧ x = partAt len pn 0 + r ∧ Below w7.heap.size w7 wr) (fun i _ _ => d - (intOf i).toNat)
                  case atStart => exact ⟨0, _, rfl, Nat.zero_le _, rfl, rfl, Below.refl _ _⟩
                  case round =>
                    obtain ⟨r, x, rfl, hr, rfl, hx, hB4⟩ := hrel
                    have hr0 : (0 : Int) ≤ (r : Int) := Int.natCast_nonneg _
                    have hx0 : (0 : Int) ≤ (x : Int) := Int.natCast_nonneg _
                    have hX := Lib.hid hx
                    clear hx
                    by_cases hrd : r < d
                    · have hr1 : (r : Int) < (d : Int) := by omega
                      have hrX : r < (partOf L pn 0).length := by rw [HDD.out]; exact hrd
                      have hxl : x < len := by have h1 := HDD.out; have h2 := hpas'.out; have h3 := hpal'.out; have h4 := hX.out; omega
                      have hxL : x < L.length := by rw [hlen'.out]; exact hxl
                      have hx1 : (x : Int) < (len : Int) := by omega
                      have hent : (partOf L pn 0)[r] = L[x] := by
                        have h4 := hX.out
                        subst h4
                        simp only [partOf, List.getElem_drop, List.getElem_take, hlen'.out]
                      obtain ⟨g7, rfl, -, hg7, hrow7⟩ := own_at H7.out (by omega)
                      have t0 := (cell_below hB4 hg7 _).trans (hrow7 (r * 2 + 0) _ (cellsE_get _ r hrX 0 _ rfl))
                      have t1 := (cell_below hB4 hg7 _).trans (hrow7 (r * 2 + 1) _ (cellsE_get _ r hrX 1 _ rfl))
                      rw [Nat.add_zero] at t0
                      rw [hent] at t0 t1
                      have hLc0 := fun (c : List Value) (h : c = cellsE L) => (h ▸ cellsE_get L x hxL 0 (.string (S L[x].key)) rfl : c[x * 2 + 0]? = some (.string (S L[x].key)))
                      have hLc1 := fun (c : List Value) (h : c = cellsE L) => (h ▸ cellsE_get L x hxL 1 (.string (S L[x].val)) rfl : c[x * 2 + 1]? = some (.string (S L[x].val)))
                      have p6 := kept_cell hB4 p5
                      have HP6 := Lib.hid (HP5.out.kept hB4 (Nat.le_refl _))
                      have HC0 := Lib.hid hLc0
                      have HC1 := Lib.hid hLc1
                      have HXL := Lib.hid hxL
                      clear hent hrow7 hLc0 hLc1 hrX
                      generalize L[x] = u at *
                      clear hxL
                      go_wp2_with fail
                      have p7 := cell_past (.cells #[.string (S u.key), .string (S u.val)] 54) p6
                      have e0 : (wr.alloc (.cells #[.string (S u.key), .string (S u.val)] 54)).cell? ⟨wr.heap.size, 0, none⟩ = some (.string (S u.key)) := by simp
                      have e1 : (wr.alloc (.cells #[.string (S u.key), .string (S u.val)] 54)).cell? ⟨wr.heap.size, 1, none⟩ = some (.string (S u.val)) := by simp
                      have gB : Below wr.heap.size wr (wr.alloc (.cells #[.string (S u.key), .string (S u.val)] 54)) := by go_grown
                      have HW := Lib.hid (listE_next aL' len cL' L (wr.alloc (.cells #[.string (S u.key), .string (S u.val)] 54)).drew hlen'.out.symm (HP6.out.kept (below_drew' gB) (Nat.le_refl _)) (by rw [hlen'.out]; omega))
                      go_region_law (first | (go_simp; go_at_call 20; refine (HW.out).mono ?_; rintro e w8 ⟨⟨a8, c8, rfl, hown8⟩, hb8⟩; have y0 := kept_cell hb8 (cell_drew e0); have y1 := kept_cell hb8 (cell_drew e1); obtain ⟨g8, rfl, -, hg8, hrow8⟩ := own_at hown8 (by omega); have v0 := hrow8 (x * 2 + 0) _ (HC0.out _ rfl); have v1 := hrow8 (x * 2 + 1) _ (HC1.out _ rfl); rw [Nat.add_zero] at v0; have hF := (below_drew' gB).trans (hb8.mono gB.size)))
                      all_goals (
                        go_wp2_with fail
                        go_roundw
                        (case rel => exact (⟨r + 1, x + 1, by go_num, by omega, by go_num, by have := hX.out; omega, hB4.trans (hF.mono hB4.size)⟩))
                        (case measure => first | (simp [intOf]; done) | (simp [intOf]; omega)))
                    · obtain rfl : r = d := by omega
                      have hxe : x = partAt len pn (0 + 1) := by have h1 := HDD.out; have h2 := hpas'.out; have h4 := hX.out; omega
                      have hBe := hB3.trans ((hC7.trans (hB4.mono (Nat.le_trans hEz hz7))).mono hB3z)
                      go_wp2_with fail
                      go_roundw
                      (case rel => exact (⟨0 + 1, by go_num, by omega, by rw [hxe], hBe⟩))
                      (case measure => first | (simp [intOf]; done) | (simp [intOf]; omega))
                · have hq30 : (0 : Int) ≤ (q3 : Int) := Int.natCast_nonneg _
                  have hwq : IntKind.i64.wrap (q3 : Int) = (q3 : Int) := IntWalk.i64_in _ (by omega)
                  obtain ⟨xq, hxq, aq, cq, Bq, rfl, -⟩ := HV.out q3 (by omega)
                  obtain ⟨xz, hxz, az, cz, Bz, rfl, -⟩ := HV.out 0 (by omega)
                  have sq := (cell_below hDr.out hg2 _).trans (hrow q3 _ hxq)
                  have sz := (cell_below hDr.out hg2 _).trans (hrow 0 _ hxz)
                  have l2' := l2 (by omega)
                  rw [Nat.add_sub_cancel] at l2'
                  obtain ⟨dq, hdq⟩ : ∃ dq, (partOf L pn q3).length = dq := ⟨_, rfl⟩
                  obtain ⟨dz, hdz⟩ : ∃ dz, (partOf L pn 0).length = dz := ⟨_, rfl⟩
                  rw [hdq] at sq l2'
                  rw [hdz] at sz l3
                  have e1 : ¬ (dq : Int) < (d : Int) := by omega
                  have e1b : ¬ dq < d := by omega
                  have e1c : decide ((dq : Int) < (d : Int)) = false := by simpa using e1
                  have e2 : ¬ 1 < (dz : Int) - (d : Int) := by omega
                  have e2c : decide (1 < (dz : Int) - (d : Int)) = false := by simpa using e2
                  have hpn0 : (0 : Int) < (pn : Int) := by omega
                  have hq31 : (q3 : Int) < (pn : Int) := by omega
                  have e3 : IntKind.i64.wrap ((dz : Int) - (d : Int)) = (dz : Int) - (d : Int) := by
                    have hz1 := partOf_len L pn 0 (by omega) (by omega)
                    have hz2 := Nat.div_le_self L.length pn
                    rw [hlen'.out] at hz1 hz2
                    generalize len / pn = qq at *
                    refine IntWalk.i64_in _ ⟨?_, ?_⟩
                    · split at hz1 <;> omega
                    · split at hz1 <;> omega
                  clear hxq hxz hdq hdz l2 l2' l3
                  go_wp2_with fail
                  have g0 := cell_past (.cells #[.slice ap d cp] 45) sq
                  have g1 := cell_past (.cells #[.slice ap d cp] 45) sz
                  refine WQ.region (C := fun w' => w'.cell? ⟨wr.heap.size, 0, none⟩ = some (.slice ap d cp) ∧ w'.cell? ⟨g, q3, none⟩ = some (.slice aq dq cq) ∧ w'.cell? ⟨g, 0, none⟩ = some (.slice az dz cz) ∧ Below wr.heap.size wr w') (by kernel_rfl) (by kernel_rfl) ⟨cell_drew (by simp), cell_drew g0, cell_drew g1, by go_grown⟩ ?_
                  refine WQ.want (by rfl) (fun K hK => ?_)
                  refine ⟨.agg #[.slice ap d cp], fun w' hw' => ?_, hK _ ?_⟩
                  · obtain ⟨x0, x1, x2, x3⟩ := hw'
                    go_simp
                  clear hK K
                  (try simp only [Act.put, List.setIfInBounds_toArray, List.set_cons_zero, List.set_cons_succ])
                  refine WQ.want (by rfl) (fun K hK => ?_)
                  refine ⟨.int .i64 d, fun w' hw' => ?_, hK _ ?_⟩
                  · obtain ⟨x0, x1, x2, x3⟩ := hw'
                    go_simp
                    go_at_call 19
                    refine (lenAny _ _ _ _).mono ?_
                    rintro e w6 ⟨he, hb6⟩
                    exact ⟨he, kept_cell hb6 x0, kept_cell hb6 x1, kept_cell hb6 x2, x3.trans (hb6.mono x3.size)⟩
                  clear hK K
                  (try simp only [Act.put, List.setIfInBounds_toArray, List.set_cons_zero, List.set_cons_succ])
                  refine WQ.want (by rfl) (fun K hK => ?_)
                  refine BigFrame.quiet_move _ rfl (hK _ ?_)
                  clear hK K
                  (try simp only [Act.put, List.setIfInBounds_toArray, List.set_cons_zero, List.set_cons_succ])
                  refine WQ.want (by rfl) (fun K hK => ?_)
                  refine ⟨.bool false, fun w' hw' => ?_, hK _ ?_⟩
                  · obtain ⟨x0, x1, x2, x3⟩ := hw'
                    go_simp
                  clear hK K
                  (try simp only [Act.put, List.setIfInBounds_toArray, List.set_cons_zero, List.set_cons_succ])
                  refine WQ.want (by rfl) (fun K hK => ?_)
                  refine BigFrame.quiet_move _ rfl (hK _ ?_)
                  clear hK K
                  (try simp only [Act.put, List.setIfInBounds_toArray, List.set_cons_zero, List.set_cons_succ])
                  refine WQ.want (by rfl) (fun K hK => ?_)
                  refine BigFrame.quiet_move _ rfl (hK _ ?_)
                  clear hK K
                  (try simp only [Act.put, List.setIfInBounds_toArray, List.set_cons_zero, List.set_cons_succ])
                  refine WQ.want (by rfl) (fun K hK => ?_)
                  refine ⟨.bool true, fun w' hw' => ?_, hK _ ?_⟩
                  · obtain ⟨x0, x1, x2, x3⟩ := hw'
                    go_simp
                  clear hK K
                  (try simp only [Act.put, List.setIfInBounds_toArray, List.set_cons_zero, List.set_cons_succ])
                  refine WQ.want (by rfl) (fun K hK => ?_)
                  refine BigFrame.quiet_move _ rfl (hK _ ?_)
                  clear hK K
                  (try simp only [Act.put, List.setIfInBounds_toArray, List.set_cons_zero, List.set_cons_succ])
                  refine WQ.want (by rfl) (fun K hK => ?_)
                  refine ⟨.agg #[.slice ap d cp], fun w' hw' => ?_, hK _ ?_⟩
                  · obtain ⟨x0, x1, x2, x3⟩ := hw'
                    go_simp
                  clear hK K
                  (try simp only [Act.put, List.setIfInBounds_toArray, List.set_cons_zero, List.set_cons_succ])
                  refine WQ.want (by rfl) (fun K hK => ?_)
                  refine ⟨.int .i64 d, fun w' hw' => ?_, hK _ ?_⟩
                  · obtain ⟨x0, x1, x2, x3⟩ := hw'
                    go_simp
                    go_at_call 19
                    refine (lenAny _ _ _ _).mono ?_
                    rintro e w6 ⟨he, hb6⟩
                    exact ⟨he, kept_cell hb6 x0, kept_cell hb6 x1, kept_cell hb6 x2, x3.trans (hb6.mono x3.size)⟩
                  clear hK K
                  (try simp only [Act.put, List.setIfInBounds_toArray, List.set_cons_zero, List.set_cons_succ])
                  refine WQ.want (by rfl) (fun K hK => ?_)
                  refine BigFrame.quiet_move _ rfl (hK _ ?_)
                  clear hK K
                  (try simp only [Act.put, List.setIfInBounds_toArray, List.set_cons_zero, List.set_cons_succ])
                  refine WQ.want (by rfl) (fun K hK => ?_)
                  refine BigFrame.quiet_move _ rfl (hK _ ?_)
                  clear hK K
                  (try simp only [Act.put, List.setIfInBounds_toArray, List.set_cons_zero, List.set_cons_succ])
                  refine WQ.want (by rfl) (fun K hK => ?_)
                  refine ⟨.int .i64 q3, fun w' hw' => ?_, hK _ ?_⟩
                  · obtain ⟨x0, x1, x2, x3⟩ := hw'
                    go_simp
                  clear hK K
                  (try simp only [Act.put, List.setIfInBounds_toArray, List.set_cons_zero, List.set_cons_succ])
                  refine WQ.want (by rfl) (fun K hK => ?_)
                  refine ⟨.pointer (some ⟨g, q3, none⟩), fun w' hw' => ?_, hK _ ?_⟩
                  · obtain ⟨x0, x1, x2, x3⟩ := hw'
                    go_simp
                  clear hK K
                  (try simp only [Act.put, List.setIfInBounds_toArray, List.set_cons_zero, List.set_cons_succ])
                  refine WQ.want (by rfl) (fun K hK => ?_)
                  refine ⟨.agg #[.slice aq dq cq], fun w' hw' => ?_, hK _ ?_⟩
                  · obtain ⟨x0, x1, x2, x3⟩ := hw'
                    go_simp
                  clear hK K
                  (try simp only [Act.put, List.setIfInBounds_toArray, List.set_cons_zero, List.set_cons_succ])
                  refine WQ.want (by rfl) (fun K hK => ?_)
                  refine ⟨.int .i64 dq, fun w' hw' => ?_, hK _ ?_⟩
                  · obtain ⟨x0, x1, x2, x3⟩ := hw'
                    go_simp
                    go_at_call 19
                    refine (lenAny _ _ _ _).mono ?_
                    rintro e w6 ⟨he, hb6⟩
                    exact ⟨he, kept_cell hb6 x0, kept_cell hb6 x1, kept_cell hb6 x2, x3.trans (hb6.mono x3.size)⟩
                  clear hK K
                  (try simp only [Act.put, List.setIfInBounds_toArray, List.set_cons_zero, List.set_cons_succ])
                  refine WQ.want (by rfl) (fun K hK => ?_)
                  refine ⟨.bool false, fun w' hw' => ?_, hK _ ?_⟩
                  · obtain ⟨x0, x1, x2, x3⟩ := hw'
                    go_simp
                  clear hK K
                  (try simp only [Act.put, List.setIfInBounds_toArray, List.set_cons_zero, List.set_cons_succ])
                  refine WQ.want (by rfl) (fun K hK => ?_)
                  refine BigFrame.quiet_move _ rfl (hK _ ?_)
                  clear hK K
                  (try simp only [Act.put, List.setIfInBounds_toArray, List.set_cons_zero, List.set_cons_succ])
                  refine WQ.want (by rfl) (fun K hK => ?_)
                  refine BigFrame.quiet_move _ rfl (hK _ ?_)
                  clear hK K
                  (try simp only [Act.put, List.setIfInBounds_toArray, List.set_cons_zero, List.set_cons_succ])
                  refine WQ.want (by rfl) (fun K hK => ?_)
                  refine ⟨.pointer (some ⟨g, 0, none⟩), fun w' hw' => ?_, hK _ ?_⟩
                  · obtain ⟨x0, x1, x2, x3⟩ := hw'
                    go_simp
                  clear hK K
                  (try simp only [Act.put, List.setIfInBounds_toArray, List.set_cons_zero, List.set_cons_succ])
                  refine WQ.want (by rfl) (fun K hK => ?_)
                  refine ⟨.agg #[.slice az dz cz], fun w' hw' => ?_, hK _ ?_⟩
                  · obtain ⟨x0, x1, x2, x3⟩ := hw'
                    go_simp
                  clear hK K
                  (try simp only [Act.put, List.setIfInBounds_toArray, List.set_cons_zero, List.set_cons_succ])
                  refine WQ.want (by rfl) (fun K hK => ?_)
                  refine ⟨.int .i64 dz, fun w' hw' => ?_, hK _ ?_⟩
                  · obtain ⟨x0, x1, x2, x3⟩ := hw'
                    go_simp
                    go_at_call 19
                    refine (lenAny _ _ _ _).mono ?_
                    rintro e w6 ⟨he, hb6⟩
                    exact ⟨he, kept_cell hb6 x0, kept_cell hb6 x1, kept_cell hb6 x2, x3.trans (hb6.mono x3.size)⟩
                  clear hK K
                  (try simp only [Act.put, List.setIfInBounds_toArray, List.set_cons_zero, List.set_cons_succ])
                  refine WQ.want (by rfl) (fun K hK => ?_)
                  refine ⟨.agg #[.slice ap d cp], fun w' hw' => ?_, hK _ ?_⟩
                  · obtain ⟨x0, x1, x2, x3⟩ := hw'
                    go_simp
                  clear hK K
                  (try simp only [Act.put, List.setIfInBounds_toArray, List.set_cons_zero, List.set_cons_succ])
                  refine WQ.want (by rfl) (fun K hK => ?_)
                  refine ⟨.int .i64 d, fun w' hw' => ?_, hK _ ?_⟩
                  · obtain ⟨x0, x1, x2, x3⟩ := hw'
                    go_simp
                    go_at_call 19
                    refine (lenAny _ _ _ _).mono ?_
                    rintro e w6 ⟨he, hb6⟩
                    exact ⟨he, kept_cell hb6 x0, kept_cell hb6 x1, kept_cell hb6 x2, x3.trans (hb6.mono x3.size)⟩
                  clear hK K
                  (try simp only [Act.put, List.setIfInBounds_toArray, List.set_cons_zero, List.set_cons_succ])
                  refine WQ.want (by rfl) (fun K hK => ?_)
                  refine ⟨.int .i64 ((dz : Int) - (d : Int)), fun w' hw' => ?_, hK _ ?_⟩
                  · obtain ⟨x0, x1, x2, x3⟩ := hw'
                    go_simp
                  clear hK K
                  (try simp only [Act.put, List.setIfInBounds_toArray, List.set_cons_zero, List.set_cons_succ])
                  refine WQ.want (by rfl) (fun K hK => ?_)
                  refine ⟨.bool false, fun w' hw' => ?_, hK _ ?_⟩
                  · obtain ⟨x0, x1, x2, x3⟩ := hw'
                    go_simp
                  clear hK K
                  (try simp only [Act.put, List.setIfInBounds_toArray, List.set_cons_zero, List.set_cons_succ])
                  refine WQ.want (by rfl) (fun K hK => ?_)
                  refine ⟨.bool false, fun w' hw' => ?_, hK _ ?_⟩
                  · obtain ⟨x0, x1, x2, x3⟩ := hw'
                    go_simp
                  clear hK K
                  (try simp only [Act.put, List.setIfInBounds_toArray, List.set_cons_zero, List.set_cons_succ])
                  refine WQ.want (by rfl) (fun K hK => ?_)
                  refine ⟨.bool false, fun w' hw' => ?_, hK _ ?_⟩
                  · obtain ⟨x0, x1, x2, x3⟩ := hw'
                    go_simp
                  clear hK K
                  (try simp only [Act.put, List.setIfInBounds_toArray, List.set_cons_zero, List.set_cons_succ])
                  refine WQ.want (by rfl) (fun K hK => ?_)
                  refine ⟨.bool false, fun w' hw' => ?_, hK _ ?_⟩
                  · obtain ⟨x0, x1, x2, x3⟩ := hw'
                    go_simp
                  clear hK K
                  (try simp only [Act.put, List.setIfInBounds_toArray, List.set_cons_zero, List.set_cons_succ])
                  refine WQ.done ?_
                  rintro w6 ⟨z0, -, -, hE⟩
                  obtain ⟨wC, hwC⟩ : ∃ wC, wC = wr := ⟨_, rfl⟩
                  subst hwC
                  have hbx := BoxE.of_own (own_below HO.out hE)
                  rw [HDD.out] at hbx
                  have p4 := kept_cell hE p1
                  have HP4 := Lib.hid (HP3.out.kept hE (Nat.le_refl _))
                  have hEz := hE.size
                  have hdl : d ≤ 69 := by have h1 := HDD.out; have h2 := hpas'.out; have h3 := hpal'.out; omega
                  go_wp2_with fail
                  refine (thread (listE_next ap d cp (partOf L pn (q3 + 1)) w6 HDD.out.symm hbx (by rw [HDD.out]; omega)) w6.heap.size w6 (by go_grown) (by go_grown)).mono ?_
                  rintro e w7 ⟨⟨a7, c7, rfl, hown7⟩, hX7, -, -, -, hz7⟩
                  have p5 := kept_cell hX7 p4
                  have HP5 := Lib.hid (HP4.out.kept hX7 (Nat.le_refl _))
                  have H7 := Lib.hid hown7
                  have hC7 := hE.trans (hX7.mono hEz)
                  have hneq := fun a b w => ent_neq_same a b w
                  have hgrd := fun op x y xs ys w => ent_guard op x y xs ys w
                  clear hbx p4 HP4 hX7 hown7 z0 HO
                  go_wp2_with fail
                  go_loopw [116, 11] (fun i s wr => ∃ (r x : Nat), i = .int .i64 r ∧ r ≤ d ∧ s = .int .i64 x ∧ x = partAt len pn (q3 + 1) + r ∧ Below w7.heap.size w7 wr) (fun i _ _ => d - (intOf i).toNat)
                  case atStart => exact ⟨0, _, rfl, Nat.zero_le _, rfl, rfl, Below.refl _ _⟩
                  case round =>
                    obtain ⟨r, x, rfl, hr, rfl, hx, hB4⟩ := hrel
                    have hr0 : (0 : Int) ≤ (r : Int) := Int.natCast_nonneg _
                    have hx0 : (0 : Int) ≤ (x : Int) := Int.natCast_nonneg _
                    have hX := Lib.hid hx
                    clear hx
                    by_cases hrd : r < d
                    · have hr1 : (r : Int) < (d : Int) := by omega
                      have hrX : r < (partOf L pn (q3 + 1)).length := by rw [HDD.out]; exact hrd
                      have hxl : x < len := by have h1 := HDD.out; have h2 := hpas'.out; have h3 := hpal'.out; have h4 := hX.out; omega
                      have hxL : x < L.length := by rw [hlen'.out]; exact hxl
                      have hx1 : (x : Int) < (len : Int) := by omega
                      have hent : (partOf L pn (q3 + 1))[r] = L[x] := by
                        have h4 := hX.out
                        subst h4
                        simp only [partOf, List.getElem_drop, List.getElem_take, hlen'.out]
                      obtain ⟨g7, rfl, -, hg7, hrow7⟩ := own_at H7.out (by omega)
                      have t0 := (cell_below hB4 hg7 _).trans (hrow7 (r * 2 + 0) _ (cellsE_get _ r hrX 0 _ rfl))
                      have t1 := (cell_below hB4 hg7 _).trans (hrow7 (r * 2 + 1) _ (cellsE_get _ r hrX 1 _ rfl))
                      rw [Nat.add_zero] at t0
                      rw [hent] at t0 t1
                      have hLc0 := fun (c : List Value) (h : c = cellsE L) => (h ▸ cellsE_get L x hxL 0 (.string (S L[x].key)) rfl : c[x * 2 + 0]? = some (.string (S L[x].key)))
                      have hLc1 := fun (c : List Value) (h : c = cellsE L) => (h ▸ cellsE_get L x hxL 1 (.string (S L[x].val)) rfl : c[x * 2 + 1]? = some (.string (S L[x].val)))
                      have p6 := kept_cell hB4 p5
                      have HP6 := Lib.hid (HP5.out.kept hB4 (Nat.le_refl _))
                      have HC0 := Lib.hid hLc0
                      have HC1 := Lib.hid hLc1
                      have HXL := Lib.hid hxL
                      clear hent hrow7 hLc0 hLc1 hrX
                      generalize L[x] = u at *
                      clear hxL
                      go_wp2_with fail
                      have p7 := cell_past (.cells #[.string (S u.key), .string (S u.val)] 54) p6
                      have e0 : (wr.alloc (.cells #[.string (S u.key), .string (S u.val)] 54)).cell? ⟨wr.heap.size, 0, none⟩ = some (.string (S u.key)) := by simp
                      have e1 : (wr.alloc (.cells #[.string (S u.key), .string (S u.val)] 54)).cell? ⟨wr.heap.size, 1, none⟩ = some (.string (S u.val)) := by simp
                      have gB : Below wr.heap.size wr (wr.alloc (.cells #[.string (S u.key), .string (S u.val)] 54)) := by go_grown
                      have HW := Lib.hid (listE_next aL' len cL' L (wr.alloc (.cells #[.string (S u.key), .string (S u.val)] 54)).drew hlen'.out.symm (HP6.out.kept (below_drew' gB) (Nat.le_refl _)) (by rw [hlen'.out]; omega))
                      go_region_law (first | (go_simp; go_at_call 20; refine (HW.out).mono ?_; rintro e w8 ⟨⟨a8, c8, rfl, hown8⟩, hb8⟩; have y0 := kept_cell hb8 (cell_drew e0); have y1 := kept_cell hb8 (cell_drew e1); obtain ⟨g8, rfl, -, hg8, hrow8⟩ := own_at hown8 (by omega); have v0 := hrow8 (x * 2 + 0) _ (HC0.out _ rfl); have v1 := hrow8 (x * 2 + 1) _ (HC1.out _ rfl); rw [Nat.add_zero] at v0; have hF := (below_drew' gB).trans (hb8.mono gB.size)))
                      all_goals (
                        go_wp2_with fail
                        go_roundw
                        (case rel => exact (⟨r + 1, x + 1, by go_num, by omega, by go_num, by have := hX.out; omega, hB4.trans (hF.mono hB4.size)⟩))
                        (case measure => first | (simp [intOf]; done) | (simp [intOf]; omega)))
                    · obtain rfl : r = d := by omega
                      have hxe : x = partAt len pn ((q3 + 1) + 1) := by have h1 := HDD.out; have h2 := hpas'.out; have h4 := hX.out; omega
                      have hBe := hB3.trans ((hC7.trans (hB4.mono (Nat.le_trans hEz hz7))).mono hB3z)
                      go_wp2_with fail
                      go_roundw
                      (case rel => exact (⟨(q3 + 1) + 1, by go_num, by omega, by rw [hxe], hBe⟩))
                      (case measure => first | (simp [intOf]; done) | (simp [intOf]; omega))
              · obtain rfl : j3 = pn := by omega
                rw [partAt_all len j3 hpp]
                have hBe := hAB.trans (hB3.mono hAz)
                go_wp2_with (go_at_call 19; refine (lenAny _ _ _ _).mono ?_; rintro e w6 ⟨rfl, hb6⟩; have hBe := hBe.trans (hb6.mono hBe.size))
                go_roundw
                (case rel => exact (⟨j + 1, by go_num, by omega, hBe⟩))
                (case measure => first | (simp [intOf]; done) | (simp [intOf]; omega))
        · obtain rfl : j = 2 := by omega
          go_wp2_with fail
          go_ret
          exact ⟨rfl, hB1.trans (hBj.mono hB1.size)⟩

end Go.Proofs.Ytcjeonamebnpfaa
