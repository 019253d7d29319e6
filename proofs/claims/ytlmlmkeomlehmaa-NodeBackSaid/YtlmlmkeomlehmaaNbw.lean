/-
  The walk of NodeBack.
-/
import Derived.Test.YtlmlmkeomlehmaaNpw
import Derived.StillTailTactics
namespace Go.Proofs.Ytlmlmkeomlehmaa
open Go.RowKit
attribute [local go_sem ↓] Go.wp_at_zero Go.wp_at_succ

def updNB (u : Upd) : Upd := ⟨2, (u.key ++ [107]).take 9, [], 0⟩
def nbTo (m : List Upd) (j : Nat) : List Upd := (m.take j).map updNB
theorem nbTo_succ (l : List Upd) {j : Nat} (h : j < l.length) : nbTo l (j + 1) = nbTo l j ++ [updNB l[j]] := by
  unfold nbTo
  rw [List.take_succ_eq_append_getElem h, List.map_append]; rfl
theorem nbTo_len (l : List Upd) (j : Nat) : (nbTo l j).length ≤ j := by unfold nbTo; rw [List.length_map, List.length_take]; omega
theorem updNB_wf (u : Upd) : (updNB u).Wf := ⟨by show 2 < 256; decide, by show (0 : Nat) < 18446744073709551616; decide⟩
theorem updNB_ok (u : Upd) : Okay (updNB u) := by
  refine ⟨updNB_wf u, ?_⟩
  have hl : ((u.key ++ [107]).take 9).length = min 9 (u.key.length + 1) := by rw [List.length_take, List.length_append]; rfl
  unfold Upd.check
  rw [if_neg, if_neg]
  · show ¬ (2 < 1 ∨ 3 < 2 ∨ (2 ≠ 1 ∧ ([] : List UInt8) ≠ []) ∨ (2 ≠ 3 ∧ 0 ≠ 0)); simp
  · show ¬ (((u.key ++ [107]).take 9).length < 1 ∨ 16 < ((u.key ++ [107]).take 9).length ∨ 32 < ([] : List UInt8).length); rw [hl]; simp; omega
theorem nbTo_ok (l : List Upd) (j : Nat) : ∀ x ∈ nbTo l j, x.Wf ∧ x.val.length ≤ 1000000 := by
  intro x hx
  obtain ⟨s, -, rfl⟩ := List.mem_map.1 hx
  exact ⟨updNB_wf s, by show ([] : List UInt8).length ≤ _; simp⟩
theorem withNB (m : List Upd) (j : Nat) : Rising Upd.key (withAll (nbTo m j)) ∧ (∀ u ∈ withAll (nbTo m j), Okay u) ∧ (withAll (nbTo m j)).length ≤ j := by
  obtain ⟨h1, -, h3⟩ := withAll_ok (nbTo m j) (nbTo_ok m _)
  have := nbTo_len m j
  refine ⟨h1, fun u hu => ?_, by omega⟩
  have h := withAll_puts (nbTo m j) (fun u hu => by obtain ⟨s, -, rfl⟩ := List.mem_map.1 hu; show (2 : Nat) ≠ 3; decide) (nbTo_ok m j) u hu
  obtain ⟨s, -, rfl⟩ := List.mem_map.1 h
  exact updNB_ok s
theorem NBox.put1 {w : World} {b : Nat} {cs : List Chd} {us us' : List Upd} {a a2 x : Option Addr} {y y2 z : Nat} (h : NBox w b cs us a y a2 y2) (hu : SlU w (.slice x us'.length z) us') : NBox (w.setCell ⟨b, 1, none⟩ (.slice x us'.length z)) b cs us' a y x z :=
  ⟨(World.cell?_setCell_other _ _ _ _ (addr_ne (Or.inr (by decide)))).trans h.c0, World.cell?_setCell_same _ _ _ h.c1, fun o => by rw [World.frozen?_setCell]; exact h.fz o, NodeAt.mk' (h.at'.parts.1.setAt h.c1 _) (hu.setAt h.c1 _)⟩

set_option maxRecDepth 100000 in
set_option maxHeartbeats 16000000 in
theorem nodeBack_walk (ao : Option Addr) (c : Nat) (l : List Chd) (bo : Option Addr) (d : Nat) (m : List Upd) (ct : Nat) (w : World) (hs : SlAt Chd.cells 4 w ao l) (hc : l.length ≤ c) (hm : SlAt Upd.cells 4 w bo m) (hd : m.length ≤ d)
    (hsl : ∀ x ∈ l, x.Wf ∧ x.low.length ≤ 140737488355328) (hml : ∀ x ∈ m, x.Wf ∧ x.key.length ≤ 140737488355328) (hct : ct < 65536) :
    Calls Try.prog 5 #[.slice ao l.length c, .slice bo m.length d, .int .u16 ct] w fun e w' => e = .returned (.bool true) ∧ Below w.heap.size w w' := by
  have hmin := fun ts t a b w => run_tmin (P := Try.prog) ts t a b w
  have hmm : tmin (m.length : Int) 10 = ((min m.length 10 : Nat) : Int) := tmin_nat _ 10
  generalize hM : min m.length 10 = k at *
  have hkx : k ≤ m.length := by omega
  have hk10 : k ≤ 10 := by omega
  have hcut := fun W => cut_LU bo m.length d k hkx hd W
  clear hM
  have hwf : ∀ c ∈ l, c.Wf := fun x hx => (hsl x hx).1
  have HRC := Lib.hid (tameC_right l hwf)
  have hlen := HRC.out.len
  have HTM := Lib.hid (tame17_any ao c l w hs hc (fun x hx => (hsl x hx).2))
  have HOF := Lib.hid (fun (a : Option Addr) (y : Nat) (w' : World) (h1 : SlAt Chd.cells 4 w' a (tameC l)) (h2 : (tameC l).length ≤ y) => of17_any a y (tameC l) none 0 [] w' h1 h2 (Or.inl rfl) (Nat.le_refl _) (tameC_lows l hwf) (fun x hx => by simp at hx))
  rw [ofC_tamed l hwf, show withAll (ofUs []) = [] from rfl] at HOF
  have HM := Lib.hid hm
  have HML := Lib.hid hml
  generalize tameC l = cs at *
  obtain ⟨n, hn⟩ : ∃ n, n = cs.length := ⟨_, rfl⟩
  have HCN := Lib.hid hn
  have hn1 : 1 ≤ n ∧ n ≤ 16 := by omega
  clear hs hm hsl hml hwf hlen
  go_enter Try.func5, Try.ntmps5
  go_wp2_with fail
  refine HTM.out.mono ?_
  rintro e w1 ⟨⟨ta, ty, rfl, hto⟩, hB1⟩
  have hts := (slC_row hto).2
  obtain ⟨ta', ty', e1, hta, hty, -⟩ := id hts
  simp only [Value.slice.injEq] at e1
  obtain ⟨rfl, -, rfl⟩ := e1
  have HL1 := Lib.hid hB1
  clear hto hts HTM
  go_wp2_with fail
  refine (HOF.out ta ty w1 hta hty).mono ?_
  rintro e w2 ⟨⟨va, vb, rfl, hna, hnb⟩, hB2⟩
  obtain ⟨a1, y1, a2, y2, rfl⟩ := hna.form'
  obtain ⟨a3, y3, a4, y4, rfl⟩ := hnb.form'
  have HL2 := Lib.hid (HL1.out.trans (hB2.mono HL1.out.size))
  have HNA := Lib.hid hna
  clear hna hnb hB2 hB1 hta hty HL1 HOF
  go_upto_region 2 with (fail)
  have NB := Lib.hid ((NBox.new (b := w2.heap.size) rfl HNA.out 31).on ((Below.refl _ _).alloc (Nat.le_refl _) (.cells #[.slice a3 cs.length y3, .slice a4 ([] : List Upd).length y4] 35)))
  have HL3 := Lib.hid ((HL2.out.alloc HL2.out.size (.cells #[.slice a1 cs.length y1, .slice a2 ([] : List Upd).length y2] 31)).alloc (by have := HL2.out.size; simp; omega) (.cells #[.slice a3 cs.length y3, .slice a4 ([] : List Upd).length y4] 35))
  change Code.wp _ _ _ _ ((w2.alloc (.cells #[.slice a1 cs.length y1, .slice a2 ([] : List Upd).length y2] 31)).alloc (.cells #[.slice a3 cs.length y3, .slice a4 ([] : List Upd).length y4] 35))
  generalize ((w2.alloc (.cells #[.slice a1 cs.length y1, .slice a2 ([] : List Upd).length y2] 31)).alloc (.cells #[.slice a3 cs.length y3, .slice a4 ([] : List Upd).length y4] 35)) = w3 at *
  rw [← hn]
  clear HNA hn
  go_wp2_with fail
  go_loopw [31] (fun i wr => ∃ (j : Nat) (x : Option Addr) (z : Nat), i = .int .i64 j ∧ j ≤ k ∧ Hid (NBox wr w2.heap.size cs (withAll (nbTo m j)) a1 y1 x z) ∧ Hid (Below w.heap.size w wr)) (fun i _ => k - (intOf i).toNat)
  case atStart => exact ⟨0, a2, y2, rfl, Nat.zero_le _, NB, HL3⟩
  case round =>
    obtain ⟨j, x, z, rfl, hj, NB, HL⟩ := hrel
    have hj0 : (0 : Int) ≤ (j : Int) := Int.natCast_nonneg _
    have hw2l := HL2.out.size
    by_cases hjk : j < k
    · have hj1 : (j : Int) < (k : Int) := by omega
      have hjl : j < m.length := by omega
      obtain ⟨b0, off, rfl, hb, t0, t1, t2, t3⟩ := SlAt.cells4 HM.out j hjl
      have q0 := (cell_below HL.out hb _).trans t0
      have q1 := (cell_below HL.out hb _).trans t1
      have q2 := (cell_below HL.out hb _).trans t2
      have q3 := (cell_below HL.out hb _).trans t3
      have hsb := HML.out _ (List.getElem_mem hjl)
      have HUS := Lib.hid (nbTo_succ m hjl)
      have hwn := fun W h => withOwn_next x _ z (nbTo m j) (updNB m[j]) W rfl h (Nat.le_trans (nbTo_len m j) (by omega)) (nbTo_ok m j) (updNB_wf _)
      rw [← HUS.out] at hwn
      have hu10 := (withNB m j).2.2
      clear t0 t1 t2 t3
      generalize hU : withAll (nbTo m j) = U at *
      generalize hV : withAll (nbTo m (j + 1)) = V at *
      have HV := Lib.hid hV
      clear hU hV
      generalize m[j] = u at *
      obtain ⟨kd, key, val, dl⟩ := u
      dsimp only [updNB] at q0 q1 q2 q3 hsb hwn
      have hkl := hsb.2
      have hm9 : tmin ((key.length : Int) + 1) 9 = ((min (key.length + 1) 9 : Nat) : Int) := tmin_nat (key.length + 1) 9
      have hwr : IntKind.i64.wrap ((key.length : Int) + 1) = (key.length : Int) + 1 := IntWalk.i64_in _ (by omega)
      have hs1 := fun W => take_str (key ++ [107]) (min (key.length + 1) 9) (by rw [List.length_append, List.length_singleton]; omega) W
      have htk : (key ++ [107]).take (min (key.length + 1) 9) = (key ++ [107]).take 9 := by
        have h := take_min (key ++ [107]) 9
        rw [List.length_append, List.length_singleton] at h
        exact h
      rw [htk] at hs1
      clear htk
      have h9b : min (key.length + 1) 9 ≤ key.length + 1 := Nat.min_le_left _ _
      generalize min (key.length + 1) 9 = m9 at *
      have hsa : S key ++ ⟨#[107]⟩ = S (key ++ [107]) := by rw [show (⟨#[107]⟩ : ByteArray) = S [107] from rfl, S_append]
      have hkl2 : (key ++ [107]).length = key.length + 1 := by simp
      generalize (key ++ [107]).take 9 = lw at *
      have HW := Lib.hid hwn
      clear hwn
      go_upto_region 5 with (fail)
      have hX : Below wr.heap.size wr (wr.alloc (.cells #[.int .u8 kd, .string (S key), .string (S val), .int .u64 dl] 63)) := by go_grown
      have k1 : (wr.alloc (.cells #[.int .u8 kd, .string (S key), .string (S val), .int .u64 dl] 63)).cell? ⟨wr.heap.size, 1, none⟩ = some (.string (S key)) := by rw [World.cell?_alloc_at _ _ _ _ rfl]; rfl
      generalize wr.alloc (.cells #[.int .u8 kd, .string (S key), .string (S val), .int .u64 dl] 63) = w4 at *
      have NB4 := Lib.hid (NB.out.on (below_drew' hX))
      have HL4 := Lib.hid (HL.out.trans ((below_drew' hX).mono HL.out.size))
      clear hX NB HL q0 q1 q2 q3
      have hnl : ¬ 9223372036854775807 < key.length + 1 := by omega
      have hnl2 : (S key ++ ⟨#[107]⟩ : ByteArray).size = key.length + 1 := by rw [hsa, S_size]; simp
      have m0 := NB4.out.c1
      have m1 := cell_drew k1
      go_still_tail 12, (by kernel_rfl)
      change wpList _ _ _ _ _ w4.drew
      generalize w4.drew = wd at *
      clear m1 hs1 hsa hnl hnl2 k1
      go_wp2_with fail
      refine (HW.out wd ⟨_, rfl, NB4.out.at'.parts.2⟩).mono ?_
      rintro e w5 ⟨⟨a', c', rfl, hb'⟩, hbl⟩
      have NB5 := Lib.hid (NB4.out.on hbl)
      have HL5 := Lib.hid (HL4.out.trans (hbl.mono HL4.out.size))
      have HB5 := Lib.hid (slU_row hb').2
      clear hbl hb' HW NB4 HL4 m0
      have z1 := NB5.out.c1
      have z2 := NB5.out.fz 1
      go_wp2_with fail
      exact ⟨⟨j + 1, a', c', by go_num, by omega, Lib.hid (by rw [HV.out]; exact NB5.out.put1 HB5.out), Lib.hid (HL5.out.setCell (p := ⟨w2.heap.size, 1, none⟩) hw2l _)⟩, by simp [intOf]; omega⟩
    · obtain rfl : j = k := by omega
      obtain ⟨hur, huo, hul⟩ := withNB m j
      generalize withAll (nbTo m j) = U at *
      have HND := Lib.hid (show NodeOk cs U from ⟨HRC.out, by omega, huo, hur⟩)
      have HTX := Lib.hid (fun v w' h => nodeText_ok v cs U w' h HND.out.in HND.out.right)
      have hTl := textN_len HND.out
      have hTp : 1 ≤ (textN cs U).length := by unfold textN; simp
      have HI := Lib.hid (fun cs' us' (h : NodeOk cs' us') (e : textN cs U = textN cs' us') => textN_inj h HND.out e)
      have HPX := Lib.hid (fun cs' us' r (h : NodeOk cs' us') (e : textN cs' us' ++ r = textN cs U) => textN_prefix HND.out h e)
      have HNo := Lib.hid (fun (h : ∀ cs' us', NodeOk cs' us' → textN cs U ≠ textN cs' us') => h cs U HND.out rfl)
      generalize textN cs U = T at *
      have HUR := Lib.hid hur
      clear hur huo hcut hmm
      have k0 := NB.out.c0
      have k1 := NB.out.c1
      rw [← HCN.out] at k0
      go_wp2_with fail
      refine (HTX.out (.agg #[.slice a1 n y1, .slice x U.length z]) wr (by have := NB.out.at'; rw [← HCN.out] at this; exact this)).mono ?_
      rintro e w4 ⟨rfl, hB4⟩
      have NB4 := Lib.hid (NB.out.on hB4)
      have HL4 := Lib.hid (HL.out.trans (hB4.mono HL.out.size))
      clear hB4 NB HL k0 k1
      go_wp2_with fail
      refine (nodeParse_any T w4 (by omega)).mono ?_
      rintro e w5 ⟨hres, hB5⟩
      have NB5 := Lib.hid (NB4.out.on hB5)
      have HL5 := Lib.hid (HL4.out.trans (hB5.mono HL4.out.size))
      clear hB5 NB4 HL4
      obtain ⟨cs', us', v, h1, h2, rfl, h4⟩ | ⟨hno, -⟩ := hres
      · obtain ⟨rfl, rfl⟩ := HI.out cs' us' h2 h1
        obtain ⟨pa, py, pa2, py2, rfl⟩ := h4.form'
        have H4 := Lib.hid h4
        clear h1 h2 h4 HI HNo
        rw [← HCN.out]
        go_upto_region 9 with (fail)
        have MB := Lib.hid (NBox.new (b := w5.heap.size) rfl H4.out 31)
        rw [← HCN.out] at MB
        have hX6 : Below w5.heap.size w5 (w5.alloc (.cells #[.slice pa n py, .slice pa2 U.length py2] 31)) := by go_grown
        have NB6 := Lib.hid (NB5.out.on hX6)
        have HL6 := Lib.hid (HL5.out.trans (hX6.mono HL5.out.size))
        generalize w5.alloc (.cells #[.slice pa n py, .slice pa2 U.length py2] 31) = w6 at *
        clear hX6 NB5 HL5 H4
        have m0 := MB.out.c0
        have m1 := MB.out.c1
        rw [← HCN.out] at m0
        go_wp2_with fail
        refine (HTX.out (.agg #[.slice pa n py, .slice pa2 U.length py2]) w6 (by have := MB.out.at'; rw [← HCN.out] at this; exact this)).mono ?_
        rintro e w7 ⟨rfl, hB7⟩
        have NB7 := Lib.hid (NB6.out.on hB7)
        have MB7 := Lib.hid (MB.out.on hB7)
        have HL7 := Lib.hid (HL6.out.trans (hB7.mono HL6.out.size))
        clear hB7 NB6 MB HL6 m0 m1
        have k0 := NB7.out.c0
        have k1 := NB7.out.c1
        rw [← HCN.out] at k0
        have m0 := MB7.out.c0
        have m1 := MB7.out.c1
        rw [← HCN.out] at m0
        go_upto_region 10 with (fail)
        have hTne : ¬ T = [] := fun e => by rw [e] at hTp; simp at hTp
        refine WQ.region (C := fun w' => Below w7.heap.size w7 w') (by kernel_rfl) (by kernel_rfl) (below_drew' (Below.refl _ _)) ?_
        refine WQ.want (by rfl) (fun K hK => ?_)
        refine ⟨.bool true, fun w' hw' => ?_, hK _ ?_⟩
        · have hq' := hw'
          go_simp
          go_at_call 21
          refine (wakes17 _).mono ?_
          rintro e w6 ⟨he, hb6⟩
          exact ⟨he, hq'.trans (hb6.mono hq'.size)⟩
        clear hK K
        (try simp only [Act.put, List.setIfInBounds_toArray, List.set_cons_zero, List.set_cons_succ])
        refine WQ.want (by rfl) (fun K hK => ?_)
        refine ⟨.bool false, fun w' hw' => ?_, hK _ ?_⟩
        · have hq' := hw'
          go_simp
        clear hK K
        (try simp only [Act.put, List.setIfInBounds_toArray, List.set_cons_zero, List.set_cons_succ])
        refine WQ.want (by rfl) (fun K hK => ?_)
        refine ⟨.bool false, fun w' hw' => ?_, hK _ ?_⟩
        · have hq' := hw'
          go_simp
        clear hK K
        (try simp only [Act.put, List.setIfInBounds_toArray, List.set_cons_zero, List.set_cons_succ])
        refine WQ.want (by rfl) (fun K hK => ?_)
        refine ⟨.int .i64 0, fun w' hw' => ?_, hK _ ?_⟩
        · have hq' := hw'
          go_simp
        clear hK K
        (try simp only [Act.put, List.setIfInBounds_toArray, List.set_cons_zero, List.set_cons_succ])
        refine WQ.want (by rfl) (fun K hK => ?_)
        refine ⟨.bool false, fun w' hw' => ?_, hK _ ?_⟩
        · have hq' := hw'
          go_simp
        clear hK K
        (try simp only [Act.put, List.setIfInBounds_toArray, List.set_cons_zero, List.set_cons_succ])
        refine WQ.want (by rfl) (fun K hK => ?_)
        refine ⟨.bool false, fun w' hw' => ?_, hK _ ?_⟩
        · have hq' := hw'
          go_simp
        clear hK K
        (try simp only [Act.put, List.setIfInBounds_toArray, List.set_cons_zero, List.set_cons_succ])
        refine WQ.want (by rfl) (fun K hK => ?_)
        refine ⟨.bool false, fun w' hw' => ?_, hK _ ?_⟩
        · have hq' := hw'
          go_simp
        clear hK K
        (try simp only [Act.put, List.setIfInBounds_toArray, List.set_cons_zero, List.set_cons_succ])
        refine WQ.want (by rfl) (fun K hK => ?_)
        refine ⟨.int .i64 0, fun w' hw' => ?_, hK _ ?_⟩
        · have hq' := hw'
          go_simp
        clear hK K
        (try simp only [Act.put, List.setIfInBounds_toArray, List.set_cons_zero, List.set_cons_succ])
        refine WQ.want (by rfl) (fun K hK => ?_)
        refine ⟨.bool false, fun w' hw' => ?_, hK _ ?_⟩
        · have hq' := hw'
          go_simp
        clear hK K
        (try simp only [Act.put, List.setIfInBounds_toArray, List.set_cons_zero, List.set_cons_succ])
        refine WQ.want (by rfl) (fun K hK => ?_)
        refine ⟨.bool false, fun w' hw' => ?_, hK _ ?_⟩
        · have hq' := hw'
          go_simp
        clear hK K
        (try simp only [Act.put, List.setIfInBounds_toArray, List.set_cons_zero, List.set_cons_succ])
        refine WQ.want (by rfl) (fun K hK => ?_)
        refine ⟨.bool false, fun w' hw' => ?_, hK _ ?_⟩
        · have hq' := hw'
          go_simp
        clear hK K
        (try simp only [Act.put, List.setIfInBounds_toArray, List.set_cons_zero, List.set_cons_succ])
        refine WQ.want (by rfl) (fun K hK => ?_)
        refine ⟨.int .i64 0, fun w' hw' => ?_, hK _ ?_⟩
        · have hq' := hw'
          go_simp
        clear hK K
        (try simp only [Act.put, List.setIfInBounds_toArray, List.set_cons_zero, List.set_cons_succ])
        refine WQ.want (by rfl) (fun K hK => ?_)
        refine ⟨.bool false, fun w' hw' => ?_, hK _ ?_⟩
        · have hq' := hw'
          go_simp
        clear hK K
        (try simp only [Act.put, List.setIfInBounds_toArray, List.set_cons_zero, List.set_cons_succ])
        refine WQ.want (by rfl) (fun K hK => ?_)
        refine ⟨.bool false, fun w' hw' => ?_, hK _ ?_⟩
        · have hq' := hw'
          go_simp
        clear hK K
        (try simp only [Act.put, List.setIfInBounds_toArray, List.set_cons_zero, List.set_cons_succ])
        refine WQ.want (by rfl) (fun K hK => ?_)
        refine ⟨.bool false, fun w' hw' => ?_, hK _ ?_⟩
        · have hq' := hw'
          go_simp
        clear hK K
        (try simp only [Act.put, List.setIfInBounds_toArray, List.set_cons_zero, List.set_cons_succ])
        refine WQ.want (by rfl) (fun K hK => ?_)
        refine ⟨.string (S T), fun w' hw' => ?_, hK _ ?_⟩
        · have hq' := hw'
          go_simp
        clear hK K
        (try simp only [Act.put, List.setIfInBounds_toArray, List.set_cons_zero, List.set_cons_succ])
        refine WQ.want (by rfl) (fun K hK => ?_)
        refine ⟨.string (S T), fun w' hw' => ?_, hK _ ?_⟩
        · have hq' := hw'
          go_simp
        clear hK K
        (try simp only [Act.put, List.setIfInBounds_toArray, List.set_cons_zero, List.set_cons_succ])
        refine WQ.want (by rfl) (fun K hK => ?_)
        refine ⟨.bool false, fun w' hw' => ?_, hK _ ?_⟩
        · have hq' := hw'
          go_simp
        clear hK K
        (try simp only [Act.put, List.setIfInBounds_toArray, List.set_cons_zero, List.set_cons_succ])
        refine WQ.want (by rfl) (fun K hK => ?_)
        refine ⟨.bool false, fun w' hw' => ?_, hK _ ?_⟩
        · have hq' := hw'
          go_simp
        clear hK K
        (try simp only [Act.put, List.setIfInBounds_toArray, List.set_cons_zero, List.set_cons_succ])
        refine WQ.want (by rfl) (fun K hK => ?_)
        refine ⟨.bool false, fun w' hw' => ?_, hK _ ?_⟩
        · have hq' := hw'
          go_simp
        clear hK K
        (try simp only [Act.put, List.setIfInBounds_toArray, List.set_cons_zero, List.set_cons_succ])
        refine WQ.want (by rfl) (fun K hK => ?_)
        refine ⟨.pointer (some ⟨w5.heap.size, 0, none⟩), fun w' hw' => ?_, hK _ ?_⟩
        · have hq' := hw'
          go_simp
        clear hK K
        (try simp only [Act.put, List.setIfInBounds_toArray, List.set_cons_zero, List.set_cons_succ])
        refine WQ.want (by rfl) (fun K hK => ?_)
        refine ⟨.slice pa n py, fun w' hw' => ?_, hK _ ?_⟩
        · have hq' := hw'
          have z0 := kept_cell hw' k0; have z1 := kept_cell hw' k1; have z2 := kept_cell hw' m0; have z3 := kept_cell hw' m1; go_simp
        clear hK K
        (try simp only [Act.put, List.setIfInBounds_toArray, List.set_cons_zero, List.set_cons_succ])
        refine WQ.want (by rfl) (fun K hK => ?_)
        refine ⟨.int .i64 n, fun w' hw' => ?_, hK _ ?_⟩
        · have hq' := hw'
          go_simp
        clear hK K
        (try simp only [Act.put, List.setIfInBounds_toArray, List.set_cons_zero, List.set_cons_succ])
        refine WQ.want (by rfl) (fun K hK => ?_)
        refine ⟨.pointer (some ⟨w2.heap.size, 0, none⟩), fun w' hw' => ?_, hK _ ?_⟩
        · have hq' := hw'
          go_simp
        clear hK K
        (try simp only [Act.put, List.setIfInBounds_toArray, List.set_cons_zero, List.set_cons_succ])
        refine WQ.want (by rfl) (fun K hK => ?_)
        refine ⟨.slice a1 n y1, fun w' hw' => ?_, hK _ ?_⟩
        · have hq' := hw'
          have z0 := kept_cell hw' k0; have z1 := kept_cell hw' k1; have z2 := kept_cell hw' m0; have z3 := kept_cell hw' m1; go_simp
        clear hK K
        (try simp only [Act.put, List.setIfInBounds_toArray, List.set_cons_zero, List.set_cons_succ])
        refine WQ.want (by rfl) (fun K hK => ?_)
        refine ⟨.int .i64 n, fun w' hw' => ?_, hK _ ?_⟩
        · have hq' := hw'
          go_simp
        clear hK K
        (try simp only [Act.put, List.setIfInBounds_toArray, List.set_cons_zero, List.set_cons_succ])
        refine WQ.want (by rfl) (fun K hK => ?_)
        refine ⟨.bool false, fun w' hw' => ?_, hK _ ?_⟩
        · have hq' := hw'
          go_simp
        clear hK K
        (try simp only [Act.put, List.setIfInBounds_toArray, List.set_cons_zero, List.set_cons_succ])
        refine WQ.want (by rfl) (fun K hK => ?_)
        refine ⟨.bool false, fun w' hw' => ?_, hK _ ?_⟩
        · have hq' := hw'
          go_simp
        clear hK K
        (try simp only [Act.put, List.setIfInBounds_toArray, List.set_cons_zero, List.set_cons_succ])
        refine WQ.want (by rfl) (fun K hK => ?_)
        refine ⟨.bool false, fun w' hw' => ?_, hK _ ?_⟩
        · have hq' := hw'
          go_simp
        clear hK K
        (try simp only [Act.put, List.setIfInBounds_toArray, List.set_cons_zero, List.set_cons_succ])
        refine WQ.want (by rfl) (fun K hK => ?_)
        refine ⟨.pointer (some ⟨w5.heap.size, 1, none⟩), fun w' hw' => ?_, hK _ ?_⟩
        · have hq' := hw'
          go_simp
        clear hK K
        (try simp only [Act.put, List.setIfInBounds_toArray, List.set_cons_zero, List.set_cons_succ])
        refine WQ.want (by rfl) (fun K hK => ?_)
        refine ⟨.agg #[.slice pa2 U.length py2], fun w' hw' => ?_, hK _ ?_⟩
        · have hq' := hw'
          have z0 := kept_cell hw' k0; have z1 := kept_cell hw' k1; have z2 := kept_cell hw' m0; have z3 := kept_cell hw' m1; go_simp
        clear hK K
        (try simp only [Act.put, List.setIfInBounds_toArray, List.set_cons_zero, List.set_cons_succ])
        refine WQ.want (by rfl) (fun K hK => ?_)
        refine ⟨.int .i64 U.length, fun w' hw' => ?_, hK _ ?_⟩
        · have hq' := hw'
          go_simp
          go_at_call 26
          refine (lenU_next pa2 U.length py2 _).mono ?_
          rintro e w6 ⟨he, hb6⟩
          exact ⟨he, hq'.trans (hb6.mono hq'.size)⟩
        clear hK K
        (try simp only [Act.put, List.setIfInBounds_toArray, List.set_cons_zero, List.set_cons_succ])
        refine WQ.want (by rfl) (fun K hK => ?_)
        refine ⟨.pointer (some ⟨w2.heap.size, 1, none⟩), fun w' hw' => ?_, hK _ ?_⟩
        · have hq' := hw'
          go_simp
        clear hK K
        (try simp only [Act.put, List.setIfInBounds_toArray, List.set_cons_zero, List.set_cons_succ])
        refine WQ.want (by rfl) (fun K hK => ?_)
        refine ⟨.agg #[.slice x U.length z], fun w' hw' => ?_, hK _ ?_⟩
        · have hq' := hw'
          have z0 := kept_cell hw' k0; have z1 := kept_cell hw' k1; have z2 := kept_cell hw' m0; have z3 := kept_cell hw' m1; go_simp
        clear hK K
        (try simp only [Act.put, List.setIfInBounds_toArray, List.set_cons_zero, List.set_cons_succ])
        refine WQ.want (by rfl) (fun K hK => ?_)
        refine ⟨.int .i64 U.length, fun w' hw' => ?_, hK _ ?_⟩
        · have hq' := hw'
          go_simp
          go_at_call 26
          refine (lenU_next x U.length z _).mono ?_
          rintro e w6 ⟨he, hb6⟩
          exact ⟨he, hq'.trans (hb6.mono hq'.size)⟩
        clear hK K
        (try simp only [Act.put, List.setIfInBounds_toArray, List.set_cons_zero, List.set_cons_succ])
        refine WQ.want (by rfl) (fun K hK => ?_)
        refine ⟨.bool false, fun w' hw' => ?_, hK _ ?_⟩
        · have hq' := hw'
          go_simp
        clear hK K
        (try simp only [Act.put, List.setIfInBounds_toArray, List.set_cons_zero, List.set_cons_succ])
        refine WQ.want (by rfl) (fun K hK => ?_)
        refine ⟨.bool false, fun w' hw' => ?_, hK _ ?_⟩
        · have hq' := hw'
          go_simp
        clear hK K
        (try simp only [Act.put, List.setIfInBounds_toArray, List.set_cons_zero, List.set_cons_succ])
        refine WQ.want (by rfl) (fun K hK => ?_)
        refine ⟨.bool false, fun w' hw' => ?_, hK _ ?_⟩
        · have hq' := hw'
          go_simp
        clear hK K
        (try simp only [Act.put, List.setIfInBounds_toArray, List.set_cons_zero, List.set_cons_succ])
        refine WQ.want (by rfl) (fun K hK => ?_)
        refine ⟨.string (S T), fun w' hw' => ?_, hK _ ?_⟩
        · have hq' := hw'
          go_simp
        clear hK K
        (try simp only [Act.put, List.setIfInBounds_toArray, List.set_cons_zero, List.set_cons_succ])
        refine WQ.want (by rfl) (fun K hK => ?_)
        refine ⟨.int .i64 T.length, fun w' hw' => ?_, hK _ ?_⟩
        · have hq' := hw'
          go_simp
        clear hK K
        (try simp only [Act.put, List.setIfInBounds_toArray, List.set_cons_zero, List.set_cons_succ])
        refine WQ.want (by rfl) (fun K hK => ?_)
        refine ⟨.bool false, fun w' hw' => ?_, hK _ ?_⟩
        · have hq' := hw'
          go_simp
        clear hK K
        (try simp only [Act.put, List.setIfInBounds_toArray, List.set_cons_zero, List.set_cons_succ])
        refine WQ.want (by rfl) (fun K hK => ?_)
        refine ⟨.bool false, fun w' hw' => ?_, hK _ ?_⟩
        · have hq' := hw'
          go_simp
        clear hK K
        (try simp only [Act.put, List.setIfInBounds_toArray, List.set_cons_zero, List.set_cons_succ])
        refine WQ.done ?_
        rintro w8 hX8
        have NB8 := Lib.hid (NB7.out.on hX8)
        have HL8 := Lib.hid (HL7.out.trans (hX8.mono HL7.out.size))
        clear hX8 k0 k1 m0 m1 NB7 MB7 HL7
        obtain ⟨tl, htl⟩ : ∃ tl, tl = T.length := ⟨_, rfl⟩
        have HTL := Lib.hid htl
        obtain ⟨q, hq⟩ : ∃ q, q = ct % tl := ⟨_, rfl⟩
        have hqt : (ct : Int).tmod (tl : Int) = (q : Int) := by rw [Int.tmod_eq_emod_of_nonneg (by omega), hq]; exact (Int.natCast_emod ct tl).symm
        have hqe : (ct : Int) % (tl : Int) = (q : Int) := by rw [hq]; exact (Int.natCast_emod ct tl).symm
        have hq1 : q < tl := by rw [hq]; exact Nat.mod_lt _ (by omega)
        have hq2 : q ≤ tl := by omega
        have hsT : (S T).size = tl := by rw [S_size, htl]
        have htl0 : ¬ (tl : Int) = 0 := by omega
        have hctw : IntKind.i64.wrap (ct : Int) = (ct : Int) := IntWalk.i64_in _ (by omega)
        have hcutT := fun W => take_str T q (by omega) W
        have hQl : (T.take q).length ≤ 10000 := by rw [List.length_take]; omega
        have HDR := Lib.hid (show T.take q ++ T.drop q = T ∧ T.drop q ≠ [] from ⟨List.take_append_drop _ _, fun e => by have h := congrArg List.length e; rw [List.length_drop] at h; simp at h; omega⟩)
        generalize T.take q = Q at *
        generalize T.drop q = DR at *
        rw [← htl] at *
        clear hq htl
        go_wp2_with fail
        refine (nodeParse_any Q w8 hQl).mono ?_
        rintro e w9 ⟨hres, hB9⟩
        have NB9 := Lib.hid (NB8.out.on hB9)
        have HL9 := Lib.hid (HL8.out.trans (hB9.mono HL8.out.size))
        clear hB9 NB8 HL8
        obtain ⟨cs', us', v, h1, h2, rfl, h4⟩ | ⟨-, rfl⟩ := hres
        · obtain ⟨hcs, t, hu, hr⟩ := HPX.out cs' us' DR h2 (by rw [← h1]; exact HDR.out.1)
          have hlt : us'.length < U.length := by
            rw [hu, List.length_append]
            cases t with
            | nil => exact absurd hr HDR.out.2
            | cons u t => simp
          obtain ⟨qa, qy, qa2, qy2, rfl⟩ := h4.form'
          rw [hcs, ← HCN.out]
          clear h1 h2 h4 hcs hu hr HPX HDR
          have hlt' : (us'.length : Int) < (U.length : Int) := by omega
          go_upto_region 13 with (fail)
          have hXa : Below w9.heap.size w9 (w9.alloc (.cells #[.slice qa n qy, .slice qa2 us'.length qy2] 31)) := by go_grown
          have p0 : (w9.alloc (.cells #[.slice qa n qy, .slice qa2 us'.length qy2] 31)).cell? ⟨w9.heap.size, 0, none⟩ = some (.slice qa n qy) := by rw [World.cell?_alloc_at _ _ _ _ rfl]; rfl
          have p1 : (w9.alloc (.cells #[.slice qa n qy, .slice qa2 us'.length qy2] 31)).cell? ⟨w9.heap.size, 1, none⟩ = some (.slice qa2 us'.length qy2) := by rw [World.cell?_alloc_at _ _ _ _ rfl]; rfl
          have NBa := Lib.hid (NB9.out.on hXa)
          have HLa := Lib.hid (HL9.out.trans (hXa.mono HL9.out.size))
          generalize w9.alloc (.cells #[.slice qa n qy, .slice qa2 us'.length qy2] 31) = wa at *
          clear hXa NB9 HL9
          have k0 := NBa.out.c0
          have k1 := NBa.out.c1
          rw [← HCN.out] at k0
          refine WQ.region (C := fun w' => Below wa.heap.size wa w') (by kernel_rfl) (by kernel_rfl) (below_drew' (Below.refl _ _)) ?_
          refine WQ.want (by rfl) (fun K hK => ?_)
          refine ⟨.int .i64 0, fun w' hw' => ?_, hK _ ?_⟩
          · have hq' := hw'
            go_simp
          clear hK K
          (try simp only [Act.put, List.setIfInBounds_toArray, List.set_cons_zero, List.set_cons_succ])
          refine WQ.want (by rfl) (fun K hK => ?_)
          refine ⟨.bool false, fun w' hw' => ?_, hK _ ?_⟩
          · have hq' := hw'
            go_simp
          clear hK K
          (try simp only [Act.put, List.setIfInBounds_toArray, List.set_cons_zero, List.set_cons_succ])
          refine WQ.want (by rfl) (fun K hK => ?_)
          refine ⟨.bool false, fun w' hw' => ?_, hK _ ?_⟩
          · have hq' := hw'
            go_simp
          clear hK K
          (try simp only [Act.put, List.setIfInBounds_toArray, List.set_cons_zero, List.set_cons_succ])
          refine WQ.skip (by rfl) ?_
          (try simp only [Act.put, List.setIfInBounds_toArray, List.set_cons_zero, List.set_cons_succ])
          refine WQ.skip (by rfl) ?_
          (try simp only [Act.put, List.setIfInBounds_toArray, List.set_cons_zero, List.set_cons_succ])
          refine WQ.skip (by rfl) ?_
          (try simp only [Act.put, List.setIfInBounds_toArray, List.set_cons_zero, List.set_cons_succ])
          refine WQ.skip (by rfl) ?_
          (try simp only [Act.put, List.setIfInBounds_toArray, List.set_cons_zero, List.set_cons_succ])
          refine WQ.want (by rfl) (fun K hK => ?_)
          refine ⟨.bool false, fun w' hw' => ?_, hK _ ?_⟩
          · have hq' := hw'
            go_simp
          clear hK K
          (try simp only [Act.put, List.setIfInBounds_toArray, List.set_cons_zero, List.set_cons_succ])
          refine WQ.want (by rfl) (fun K hK => ?_)
          refine ⟨.bool false, fun w' hw' => ?_, hK _ ?_⟩
          · have hq' := hw'
            go_simp
          clear hK K
          (try simp only [Act.put, List.setIfInBounds_toArray, List.set_cons_zero, List.set_cons_succ])
          refine WQ.want (by rfl) (fun K hK => ?_)
          refine ⟨.int .i64 0, fun w' hw' => ?_, hK _ ?_⟩
          · have hq' := hw'
            go_simp
          clear hK K
          (try simp only [Act.put, List.setIfInBounds_toArray, List.set_cons_zero, List.set_cons_succ])
          refine WQ.want (by rfl) (fun K hK => ?_)
          refine ⟨.bool true, fun w' hw' => ?_, hK _ ?_⟩
          · have hq' := hw'
            go_simp
          clear hK K
          (try simp only [Act.put, List.setIfInBounds_toArray, List.set_cons_zero, List.set_cons_succ])
          refine WQ.want (by rfl) (fun K hK => ?_)
          refine ⟨.bool true, fun w' hw' => ?_, hK _ ?_⟩
          · have hq' := hw'
            go_simp
          clear hK K
          (try simp only [Act.put, List.setIfInBounds_toArray, List.set_cons_zero, List.set_cons_succ])
          refine WQ.want (by rfl) (fun K hK => ?_)
          refine ⟨.pointer (some ⟨w9.heap.size, 0, none⟩), fun w' hw' => ?_, hK _ ?_⟩
          · have hq' := hw'
            go_simp
          clear hK K
          (try simp only [Act.put, List.setIfInBounds_toArray, List.set_cons_zero, List.set_cons_succ])
          refine WQ.want (by rfl) (fun K hK => ?_)
          refine ⟨.slice qa n qy, fun w' hw' => ?_, hK _ ?_⟩
          · have hq' := hw'
            have z0 := kept_cell hw' k0; have z1 := kept_cell hw' k1; have z2 := kept_cell hw' p0; have z3 := kept_cell hw' p1; go_simp
          clear hK K
          (try simp only [Act.put, List.setIfInBounds_toArray, List.set_cons_zero, List.set_cons_succ])
          refine WQ.want (by rfl) (fun K hK => ?_)
          refine ⟨.int .i64 n, fun w' hw' => ?_, hK _ ?_⟩
          · have hq' := hw'
            go_simp
          clear hK K
          (try simp only [Act.put, List.setIfInBounds_toArray, List.set_cons_zero, List.set_cons_succ])
          refine WQ.want (by rfl) (fun K hK => ?_)
          refine ⟨.pointer (some ⟨w2.heap.size, 0, none⟩), fun w' hw' => ?_, hK _ ?_⟩
          · have hq' := hw'
            go_simp
          clear hK K
          (try simp only [Act.put, List.setIfInBounds_toArray, List.set_cons_zero, List.set_cons_succ])
          refine WQ.want (by rfl) (fun K hK => ?_)
          refine ⟨.slice a1 n y1, fun w' hw' => ?_, hK _ ?_⟩
          · have hq' := hw'
            have z0 := kept_cell hw' k0; have z1 := kept_cell hw' k1; have z2 := kept_cell hw' p0; have z3 := kept_cell hw' p1; go_simp
          clear hK K
          (try simp only [Act.put, List.setIfInBounds_toArray, List.set_cons_zero, List.set_cons_succ])
          refine WQ.want (by rfl) (fun K hK => ?_)
          refine ⟨.int .i64 n, fun w' hw' => ?_, hK _ ?_⟩
          · have hq' := hw'
            go_simp
          clear hK K
          (try simp only [Act.put, List.setIfInBounds_toArray, List.set_cons_zero, List.set_cons_succ])
          refine WQ.want (by rfl) (fun K hK => ?_)
          refine ⟨.bool true, fun w' hw' => ?_, hK _ ?_⟩
          · have hq' := hw'
            go_simp
          clear hK K
          (try simp only [Act.put, List.setIfInBounds_toArray, List.set_cons_zero, List.set_cons_succ])
          refine WQ.want (by rfl) (fun K hK => ?_)
          refine ⟨.bool true, fun w' hw' => ?_, hK _ ?_⟩
          · have hq' := hw'
            go_simp
          clear hK K
          (try simp only [Act.put, List.setIfInBounds_toArray, List.set_cons_zero, List.set_cons_succ])
          refine WQ.want (by rfl) (fun K hK => ?_)
          refine ⟨.bool true, fun w' hw' => ?_, hK _ ?_⟩
          · have hq' := hw'
            go_simp
          clear hK K
          (try simp only [Act.put, List.setIfInBounds_toArray, List.set_cons_zero, List.set_cons_succ])
          refine WQ.want (by rfl) (fun K hK => ?_)
          refine ⟨.pointer (some ⟨w9.heap.size, 1, none⟩), fun w' hw' => ?_, hK _ ?_⟩
          · have hq' := hw'
            go_simp
          clear hK K
          (try simp only [Act.put, List.setIfInBounds_toArray, List.set_cons_zero, List.set_cons_succ])
          refine WQ.want (by rfl) (fun K hK => ?_)
          refine ⟨.agg #[.slice qa2 us'.length qy2], fun w' hw' => ?_, hK _ ?_⟩
          · have hq' := hw'
            have z0 := kept_cell hw' k0; have z1 := kept_cell hw' k1; have z2 := kept_cell hw' p0; have z3 := kept_cell hw' p1; go_simp
          clear hK K
          (try simp only [Act.put, List.setIfInBounds_toArray, List.set_cons_zero, List.set_cons_succ])
          refine WQ.want (by rfl) (fun K hK => ?_)
          refine ⟨.int .i64 us'.length, fun w' hw' => ?_, hK _ ?_⟩
          · have hq' := hw'
            go_simp
            go_at_call 26
            refine (lenU_next qa2 us'.length qy2 _).mono ?_
            rintro e w6 ⟨he, hb6⟩
            exact ⟨he, hq'.trans (hb6.mono hq'.size)⟩
          clear hK K
          (try simp only [Act.put, List.setIfInBounds_toArray, List.set_cons_zero, List.set_cons_succ])
          refine WQ.want (by rfl) (fun K hK => ?_)
          refine ⟨.pointer (some ⟨w2.heap.size, 1, none⟩), fun w' hw' => ?_, hK _ ?_⟩
          · have hq' := hw'
            go_simp
          clear hK K
          (try simp only [Act.put, List.setIfInBounds_toArray, List.set_cons_zero, List.set_cons_succ])
          refine WQ.want (by rfl) (fun K hK => ?_)
          refine ⟨.agg #[.slice x U.length z], fun w' hw' => ?_, hK _ ?_⟩
          · have hq' := hw'
            have z0 := kept_cell hw' k0; have z1 := kept_cell hw' k1; have z2 := kept_cell hw' p0; have z3 := kept_cell hw' p1; go_simp
          clear hK K
          (try simp only [Act.put, List.setIfInBounds_toArray, List.set_cons_zero, List.set_cons_succ])
          refine WQ.want (by rfl) (fun K hK => ?_)
          refine ⟨.int .i64 U.length, fun w' hw' => ?_, hK _ ?_⟩
          · have hq' := hw'
            go_simp
            go_at_call 26
            refine (lenU_next x U.length z _).mono ?_
            rintro e w6 ⟨he, hb6⟩
            exact ⟨he, hq'.trans (hb6.mono hq'.size)⟩
          clear hK K
          (try simp only [Act.put, List.setIfInBounds_toArray, List.set_cons_zero, List.set_cons_succ])
          refine WQ.want (by rfl) (fun K hK => ?_)
          refine ⟨.bool true, fun w' hw' => ?_, hK _ ?_⟩
          · have hq' := hw'
            go_simp
          clear hK K
          (try simp only [Act.put, List.setIfInBounds_toArray, List.set_cons_zero, List.set_cons_succ])
          refine WQ.want (by rfl) (fun K hK => ?_)
          refine ⟨.bool true, fun w' hw' => ?_, hK _ ?_⟩
          · have hq' := hw'
            go_simp
          clear hK K
          (try simp only [Act.put, List.setIfInBounds_toArray, List.set_cons_zero, List.set_cons_succ])
          refine WQ.want (by rfl) (fun K hK => ?_)
          refine ⟨.bool true, fun w' hw' => ?_, hK _ ?_⟩
          · have hq' := hw'
            go_simp
          clear hK K
          (try simp only [Act.put, List.setIfInBounds_toArray, List.set_cons_zero, List.set_cons_succ])
          refine WQ.want (by rfl) (fun K hK => ?_)
          refine ⟨.bool true, fun w' hw' => ?_, hK _ ?_⟩
          · have hq' := hw'
            go_simp
          clear hK K
          (try simp only [Act.put, List.setIfInBounds_toArray, List.set_cons_zero, List.set_cons_succ])
          refine WQ.done ?_
          rintro wb hXb
          go_wp2_with fail
          go_ret
          exact ⟨rfl, HLa.out.trans (hXb.mono HLa.out.size)⟩
        · go_upto_region 13 with (fail)
          have hXa : Below w9.heap.size w9 (w9.alloc (.cells #[.slice none 0 0, .slice none 0 0] 31)) := by go_grown
          have p0 : (w9.alloc (.cells #[.slice none 0 0, .slice none 0 0] 31)).cell? ⟨w9.heap.size, 0, none⟩ = some (.slice none 0 0) := by rw [World.cell?_alloc_at _ _ _ _ rfl]; rfl
          have HLa := Lib.hid (HL9.out.trans (hXa.mono HL9.out.size))
          generalize w9.alloc (.cells #[.slice none 0 0, .slice none 0 0] 31) = wa at *
          clear hXa NB9 HL9
          refine WQ.region (C := fun w' => Below wa.heap.size wa w') (by kernel_rfl) (by kernel_rfl) (below_drew' (Below.refl _ _)) ?_
          refine WQ.want (by rfl) (fun K hK => ?_)
          refine ⟨.int .i64 4, fun w' hw' => ?_, hK _ ?_⟩
          · have hq' := hw'
            go_simp
          clear hK K
          (try simp only [Act.put, List.setIfInBounds_toArray, List.set_cons_zero, List.set_cons_succ])
          refine WQ.want (by rfl) (fun K hK => ?_)
          refine ⟨.bool true, fun w' hw' => ?_, hK _ ?_⟩
          · have hq' := hw'
            go_simp
          clear hK K
          (try simp only [Act.put, List.setIfInBounds_toArray, List.set_cons_zero, List.set_cons_succ])
          refine WQ.want (by rfl) (fun K hK => ?_)
          refine ⟨.bool true, fun w' hw' => ?_, hK _ ?_⟩
          · have hq' := hw'
            go_simp
          clear hK K
          (try simp only [Act.put, List.setIfInBounds_toArray, List.set_cons_zero, List.set_cons_succ])
          refine WQ.want (by rfl) (fun K hK => ?_)
          refine ⟨.pointer (some ⟨w9.heap.size, 0, none⟩), fun w' hw' => ?_, hK _ ?_⟩
          · have hq' := hw'
            go_simp
          clear hK K
          (try simp only [Act.put, List.setIfInBounds_toArray, List.set_cons_zero, List.set_cons_succ])
          refine WQ.want (by rfl) (fun K hK => ?_)
          refine ⟨.slice none 0 0, fun w' hw' => ?_, hK _ ?_⟩
          · have hq' := hw'
            have z0 := kept_cell hw' p0; go_simp
          clear hK K
          (try simp only [Act.put, List.setIfInBounds_toArray, List.set_cons_zero, List.set_cons_succ])
          refine WQ.want (by rfl) (fun K hK => ?_)
          refine ⟨.int .i64 0, fun w' hw' => ?_, hK _ ?_⟩
          · have hq' := hw'
            go_simp
          clear hK K
          (try simp only [Act.put, List.setIfInBounds_toArray, List.set_cons_zero, List.set_cons_succ])
          refine WQ.want (by rfl) (fun K hK => ?_)
          refine ⟨.bool true, fun w' hw' => ?_, hK _ ?_⟩
          · have hq' := hw'
            go_simp
          clear hK K
          (try simp only [Act.put, List.setIfInBounds_toArray, List.set_cons_zero, List.set_cons_succ])
          refine WQ.want (by rfl) (fun K hK => ?_)
          refine ⟨.bool true, fun w' hw' => ?_, hK _ ?_⟩
          · have hq' := hw'
            go_simp
          clear hK K
          (try simp only [Act.put, List.setIfInBounds_toArray, List.set_cons_zero, List.set_cons_succ])
          refine WQ.want (by rfl) (fun K hK => ?_)
          refine ⟨.bool true, fun w' hw' => ?_, hK _ ?_⟩
          · have hq' := hw'
            go_simp
          clear hK K
          (try simp only [Act.put, List.setIfInBounds_toArray, List.set_cons_zero, List.set_cons_succ])
          refine WQ.skip (by rfl) ?_
          (try simp only [Act.put, List.setIfInBounds_toArray, List.set_cons_zero, List.set_cons_succ])
          refine WQ.skip (by rfl) ?_
          (try simp only [Act.put, List.setIfInBounds_toArray, List.set_cons_zero, List.set_cons_succ])
          refine WQ.skip (by rfl) ?_
          (try simp only [Act.put, List.setIfInBounds_toArray, List.set_cons_zero, List.set_cons_succ])
          refine WQ.skip (by rfl) ?_
          (try simp only [Act.put, List.setIfInBounds_toArray, List.set_cons_zero, List.set_cons_succ])
          refine WQ.skip (by rfl) ?_
          (try simp only [Act.put, List.setIfInBounds_toArray, List.set_cons_zero, List.set_cons_succ])
          refine WQ.skip (by rfl) ?_
          (try simp only [Act.put, List.setIfInBounds_toArray, List.set_cons_zero, List.set_cons_succ])
          refine WQ.skip (by rfl) ?_
          (try simp only [Act.put, List.setIfInBounds_toArray, List.set_cons_zero, List.set_cons_succ])
          refine WQ.skip (by rfl) ?_
          (try simp only [Act.put, List.setIfInBounds_toArray, List.set_cons_zero, List.set_cons_succ])
          refine WQ.skip (by rfl) ?_
          (try simp only [Act.put, List.setIfInBounds_toArray, List.set_cons_zero, List.set_cons_succ])
          refine WQ.skip (by rfl) ?_
          (try simp only [Act.put, List.setIfInBounds_toArray, List.set_cons_zero, List.set_cons_succ])
          refine WQ.skip (by rfl) ?_
          (try simp only [Act.put, List.setIfInBounds_toArray, List.set_cons_zero, List.set_cons_succ])
          refine WQ.skip (by rfl) ?_
          (try simp only [Act.put, List.setIfInBounds_toArray, List.set_cons_zero, List.set_cons_succ])
          refine WQ.skip (by rfl) ?_
          (try simp only [Act.put, List.setIfInBounds_toArray, List.set_cons_zero, List.set_cons_succ])
          refine WQ.skip (by rfl) ?_
          (try simp only [Act.put, List.setIfInBounds_toArray, List.set_cons_zero, List.set_cons_succ])
          refine WQ.skip (by rfl) ?_
          (try simp only [Act.put, List.setIfInBounds_toArray, List.set_cons_zero, List.set_cons_succ])
          refine WQ.skip (by rfl) ?_
          (try simp only [Act.put, List.setIfInBounds_toArray, List.set_cons_zero, List.set_cons_succ])
          refine WQ.skip (by rfl) ?_
          (try simp only [Act.put, List.setIfInBounds_toArray, List.set_cons_zero, List.set_cons_succ])
          refine WQ.skip (by rfl) ?_
          (try simp only [Act.put, List.setIfInBounds_toArray, List.set_cons_zero, List.set_cons_succ])
          refine WQ.skip (by rfl) ?_
          (try simp only [Act.put, List.setIfInBounds_toArray, List.set_cons_zero, List.set_cons_succ])
          refine WQ.skip (by rfl) ?_
          (try simp only [Act.put, List.setIfInBounds_toArray, List.set_cons_zero, List.set_cons_succ])
          refine WQ.want (by rfl) (fun K hK => ?_)
          refine ⟨.bool true, fun w' hw' => ?_, hK _ ?_⟩
          · have hq' := hw'
            go_simp
          clear hK K
          (try simp only [Act.put, List.setIfInBounds_toArray, List.set_cons_zero, List.set_cons_succ])
          refine WQ.want (by rfl) (fun K hK => ?_)
          refine ⟨.bool true, fun w' hw' => ?_, hK _ ?_⟩
          · have hq' := hw'
            go_simp
          clear hK K
          (try simp only [Act.put, List.setIfInBounds_toArray, List.set_cons_zero, List.set_cons_succ])
          refine WQ.done ?_
          rintro wb hXb
          go_wp2_with fail
          go_ret
          exact ⟨rfl, HLa.out.trans (hXb.mono HLa.out.size)⟩
      · exact absurd hno HNo.out

end Go.Proofs.Ytlmlmkeomlehmaa
