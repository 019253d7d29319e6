/-
  The bytes of nodes: plain laws, no program in sight.
-/
import Derived.Test.YtafciefjlkdecaaGreatRtx
namespace Go.Proofs.YtafciefjlkdecaaGreat
open Go.RowKit

theorem ofNat_toNat_lt {n : Nat} (h : n < 256) : (UInt8.ofNat n).toNat = n := by rw [UInt8.toNat_ofNat']; exact Nat.mod_eq_of_lt h
theorem splitL_join (k r : List UInt8) (h : k.length ≤ 255) : splitL (joinT k ++ r) = (k, r, true) := by
  simp [splitL, joinT, ofNat_toNat_lt (show k.length < 256 by omega)]
theorem splitL_of {s : List UInt8} (h : (splitL s).2.2 = true) : s = joinT (splitL s).1 ++ (splitL s).2.1 ∧ (splitL s).1.length ≤ 255 := by
  cases s with
  | nil => simp [splitL] at h
  | cons b t =>
    have hb := b.toNat_lt
    unfold splitL at h ⊢
    by_cases hc : t.length < b.toNat
    · simp [hc] at h
    · simp only [if_neg hc]
      have hl : (t.take b.toNat).length = b.toNat := by rw [List.length_take]; omega
      refine ⟨?_, by rw [hl]; omega⟩
      unfold joinT
      rw [hl]
      have : UInt8.ofNat b.toNat = b := by simp
      rw [this]; simp
theorem stepU_bytes {u : Upd} (h : Okay u) (r : List UInt8) : stepU (u.bytes ++ r) = some (u, r) := by
  obtain ⟨k, key, val, d⟩ := u
  have hk := h.klen
  have hv := h.vlen
  have hc := h.check
  have hva := h.val
  have hde := h.delta
  have hwf := h.wf
  dsimp only at hk hv hva hde
  rcases h.kind with hh | hh | hh <;> (dsimp only at hh; subst hh)
  · have e0 : d = 0 := by rcases hde with e | e; · exact absurd e (by decide)
                          · exact e
    subst e0
    rw [bytes_put _ rfl]
    dsimp only
    show stepU (UInt8.ofNat 1 :: (joinT key ++ joinT val) ++ r) = _
    rw [show UInt8.ofNat 1 :: (joinT key ++ joinT val) ++ r = UInt8.ofNat 1 :: (joinT key ++ (joinT val ++ r)) by simp]
    unfold stepU
    dsimp only
    rw [splitL_join key _ (by omega)]
    simp only [if_true, restU]
    rw [ofNat_toNat_lt (by decide), if_pos rfl, splitL_join val _ (by omega)]
    simp [hc]
  · have e0 : d = 0 := by rcases hde with e | e; · exact absurd e (by decide)
                          · exact e
    have e1 : val = [] := by rcases hva with e | e; · exact absurd e (by decide)
                             · exact e
    subst e0 e1
    rw [bytes_del _ rfl]
    dsimp only
    rw [show [UInt8.ofNat 2] ++ joinT key ++ r = UInt8.ofNat 2 :: (joinT key ++ r) by simp]
    unfold stepU
    dsimp only
    rw [splitL_join key _ (by omega)]
    simp only [if_true, restU]
    rw [ofNat_toNat_lt (by decide), if_neg (by decide), if_neg (by decide)]
    simp [hc]
  · have e1 : val = [] := by rcases hva with e | e; · exact absurd e (by decide)
                             · exact e
    subst e1
    rw [bytes_add _ rfl]
    dsimp only
    rw [show [UInt8.ofNat 3] ++ joinT key ++ le d 8 ++ r = UInt8.ofNat 3 :: (joinT key ++ (le d 8 ++ r)) by simp]
    unfold stepU
    dsimp only
    rw [splitL_join key _ (by omega)]
    simp only [if_true, restU]
    rw [ofNat_toNat_lt (by decide), if_neg (by decide), if_pos rfl, if_neg (by rw [List.length_append, le_length]; omega)]
    have hd : d < 18446744073709551616 := hwf.2
    rw [List.take_left' (le_length d 8), List.drop_left' (le_length d 8), numL_le, Nat.mod_eq_of_lt (by show d < 256 ^ 8; simpa using hd)]
    simp [hc]
theorem stepU_of {s r : List UInt8} {u : Upd} (h : stepU s = some (u, r)) : s = u.bytes ++ r := by
  have hok := stepU_ok h
  unfold stepU at h
  split at h
  · simp at h
  · rename_i b t
    split at h
    · rename_i hsp
      obtain ⟨h1, -⟩ := splitL_of hsp
      have hb := b.toNat_lt
      have hbb : UInt8.ofNat b.toNat = b := by simp
      split at h
      · simp at h
      · rename_i u' m' hr
        split at h
        · simp only [Option.some.injEq, Prod.mk.injEq] at h
          obtain ⟨rfl, rfl⟩ := h
          unfold restU at hr
          split at hr
          · rename_i hb1
            split at hr
            · rename_i hv
              simp only [Option.some.injEq, Prod.mk.injEq] at hr
              obtain ⟨rfl, rfl⟩ := hr
              obtain ⟨h2, -⟩ := splitL_of hv
              rw [bytes_put _ rfl]
              dsimp only
              rw [show UInt8.ofNat 1 = b by rw [← hbb, hb1]]
              conv => lhs; rw [h1, h2]
              simp
            · simp at hr
          · split at hr
            · rename_i hb3
              split at hr
              · simp at hr
              · rename_i hl
                simp only [Option.some.injEq, Prod.mk.injEq] at hr
                obtain ⟨rfl, rfl⟩ := hr
                rw [bytes_add _ rfl]
                dsimp only
                rw [show UInt8.ofNat 3 = b by rw [← hbb, hb3]]
                have hl8 : ((splitL t).2.1.take 8).length = 8 := by rw [List.length_take]; omega
                have e := le_numL ((splitL t).2.1.take 8)
                rw [hl8] at e
                rw [e]
                conv => lhs; rw [h1]
                simp
            · rename_i hb1 hb3
              simp only [Option.some.injEq, Prod.mk.injEq] at hr
              obtain ⟨rfl, rfl⟩ := hr
              have hk := (Upd.check_ok hok.2)
              dsimp only at hk
              have hb2 : b.toNat = 2 := by omega
              rw [bytes_del _ hb2]
              dsimp only
              rw [hbb]
              conv => lhs; rw [h1]
              simp
        · simp at h
    · simp at h
theorem bytes_ne {u : Upd} (h : Okay u) : u.bytes ≠ [] := by
  intro e
  have := stepU_bytes h []
  rw [e] at this
  simp [stepU] at this
theorem textU_cons (u : Upd) (l : List Upd) : textU (u :: l) = u.bytes ++ textU l := rfl
theorem rawU_text : ∀ (l : List Upd), (∀ u ∈ l, Okay u) → rawU (textU l) = some l
  | [], _ => rfl
  | u :: l, h => by
    have hu := h u (List.mem_cons_self ..)
    have h0 : textU (u :: l) ≠ [] := by rw [textU_cons]; intro e; exact bytes_ne hu (List.append_eq_nil_iff.1 e).1
    rw [rawU_some h0 (by rw [textU_cons]; exact stepU_bytes hu _), rawU_text l (fun x hx => h x (List.mem_cons_of_mem _ hx))]
    rfl
theorem rawUN_back : ∀ (n : Nat) (s : List UInt8) (l : List Upd), s.length ≤ n → rawUN n s = some l → s = textU l
  | 0, s, l, hn, h => by
    simp only [rawUN, Option.some.injEq] at h
    rw [← h, List.eq_nil_of_length_eq_zero (by omega : s.length = 0)]; rfl
  | n + 1, s, l, hn, h => by
    unfold rawUN at h
    split at h
    · rename_i h0
      simp only [Option.some.injEq] at h; rw [← h, h0]; rfl
    · split at h
      · simp at h
      · rename_i e r hs
        have hlt := stepU_len hs
        cases hr : rawUN n r with
        | none => rw [hr] at h; simp at h
        | some t =>
          rw [hr] at h
          simp only [Option.map_some, Option.some.injEq] at h
          rw [← h, textU_cons, ← rawUN_back n r t (by omega) hr]
          exact stepU_of hs
theorem rawU_back {s : List UInt8} {l : List Upd} (h : rawU s = some l) : s = textU l := rawUN_back _ _ _ (Nat.le_refl _) h
theorem parseU_text {l : List Upd} (h : ∀ u ∈ l, Okay u) (hr : Rising Upd.key l) : parseU (textU l) = (l, 0) := by
  unfold parseU
  rw [rawU_text l h]
  simp only
  rw [if_pos ((risingB_iff l).2 hr)]
theorem parseU_back {s : List UInt8} {l : List Upd} (h : parseU s = (l, 0)) : s = textU l ∧ (∀ u ∈ l, Okay u) ∧ Rising Upd.key l := by
  have h1 := parseU_all s
  have h2 := parseU_rising s
  rw [h] at h1 h2
  refine ⟨?_, fun u hu => ⟨(h1.2 u hu).1, (h1.2 u hu).2⟩, h2⟩
  unfold parseU at h
  split at h
  · simp at h
  · rename_i l' hl
    split at h
    · simp only [Prod.mk.injEq, and_true] at h
      subst h
      exact rawU_back hl
    · simp at h
theorem parseU_two (s : List UInt8) : (parseU s).2 = 0 ∨ parseU s = ([], 4) := by
  unfold parseU
  split
  · exact Or.inr rfl
  · split
    · exact Or.inl rfl
    · exact Or.inr rfl
theorem textU_prefix : ∀ (a b : List Upd) (r : List UInt8), (∀ u ∈ a, Okay u) → (∀ u ∈ b, Okay u) → textU a ++ r = textU b → ∃ t, b = a ++ t ∧ r = textU t
  | [], b, r, _, _, h => ⟨b, rfl, by simpa [textU] using h⟩
  | u :: a, [], r, ha, _, h => by
    rw [textU_cons, List.append_assoc] at h
    exact absurd (List.append_eq_nil_iff.1 h).1 (bytes_ne (ha u (List.mem_cons_self ..)))
  | u :: a, v :: b, r, ha, hb, h => by
    rw [textU_cons, textU_cons, List.append_assoc] at h
    have h1 := stepU_bytes (ha u (List.mem_cons_self ..)) (textU a ++ r)
    rw [h, stepU_bytes (hb v (List.mem_cons_self ..))] at h1
    simp only [Option.some.injEq, Prod.mk.injEq] at h1
    obtain ⟨rfl, h2⟩ := h1
    obtain ⟨t, rfl, rfl⟩ := textU_prefix a b r (fun x hx => ha x (List.mem_cons_of_mem _ hx)) (fun x hx => hb x (List.mem_cons_of_mem _ hx)) h2.symm
    exact ⟨t, rfl, rfl⟩

/-- A pointer's bytes. -/
def ptrL (a g s : Nat) : List UInt8 := wtext [(4, a), (8, g), (4, s)]
theorem ptrL_len (a g s : Nat) : (ptrL a g s).length = 16 := by unfold ptrL; rw [wtext_len]; rfl
theorem ptr_wide (a g s : Nat) : Wide [(4, a), (8, g), (4, s)] := fun p hp => by
  simp only [List.mem_cons, List.not_mem_nil, or_false] at hp
  rcases hp with rfl | rfl | rfl <;> simp
theorem ptr_fit {a g s : Nat} (ha : a < 4294967296) (hg : g < 18446744073709551616) (hs : s < 4294967296) : Fit [(4, a), (8, g), (4, s)] := fun p hp => by
  simp only [List.mem_cons, List.not_mem_nil, or_false] at hp
  rcases hp with rfl | rfl | rfl
  · exact ha
  · exact hg
  · exact hs
theorem wtext3 (a g s : Nat) : wtext [(4, a), (8, g), (4, s)] = le a 4 ++ (le g 8 ++ le s 4) := by simp [wtext]
theorem le_inj {k a b : Nat} (ha : a < 256 ^ k) (hb : b < 256 ^ k) (h : le a k = le b k) : a = b := by
  have h1 := numL_le k a
  have h2 := numL_le k b
  rw [h, h2] at h1
  rw [Nat.mod_eq_of_lt ha, Nat.mod_eq_of_lt hb] at h1
  exact h1.symm
theorem ptrL_inj {a g s a' g' s' : Nat} (ha : a < 4294967296) (hg : g < 18446744073709551616) (hs : s < 4294967296) (ha' : a' < 4294967296) (hg' : g' < 18446744073709551616) (hs' : s' < 4294967296) (h : ptrL a g s = ptrL a' g' s') : a = a' ∧ g = g' ∧ s = s' := by
  unfold ptrL at h
  rw [wtext3, wtext3] at h
  obtain ⟨h1, h2⟩ := List.append_inj h (by simp)
  obtain ⟨h3, h4⟩ := List.append_inj h2 (by simp)
  exact ⟨le_inj (k := 4) ha ha' h1, le_inj (k := 8) hg hg' h3, le_inj (k := 4) hs hs' h4⟩

/-- A child that bytes can tell of. -/
structure ChdIs (c : Chd) : Prop where
  low : c.low.length ≤ 255
  addr : 0 ≤ c.addr ∧ c.addr < 4294967296
  gen : c.gen < 18446744073709551616
  sum : c.sum < 4294967296
/-- .. that may be. -/
structure ChdOk (c : Chd) : Prop where
  low : c.low.length ≤ 16
  addr : 0 ≤ c.addr ∧ c.addr ≤ 2147483647
  gen : c.gen < 18446744073709551616
  sum : c.sum < 4294967296
theorem ChdOk.is {c : Chd} (h : ChdOk c) : ChdIs c := ⟨by have := h.low; omega, ⟨h.addr.1, by have := h.addr.2; omega⟩, h.gen, h.sum⟩
def chT (c : Chd) : List UInt8 := joinT c.low ++ ptrL c.addr.toNat c.gen c.sum
theorem chT_inj {c d : Chd} (hc : ChdIs c) (hd : ChdIs d) {r r' : List UInt8} (h : chT c ++ r = chT d ++ r') : c = d ∧ r = r' := by
  unfold chT at h
  rw [List.append_assoc, List.append_assoc] at h
  have h1 := splitL_join c.low (ptrL c.addr.toNat c.gen c.sum ++ r) hc.low
  rw [h, splitL_join _ _ hd.low] at h1
  simp only [Prod.mk.injEq, and_true] at h1
  obtain ⟨h2, h3⟩ := h1
  obtain ⟨h4, h5⟩ := List.append_inj h3 (by rw [ptrL_len, ptrL_len])
  have a1 := hc.addr
  have a2 := hd.addr
  obtain ⟨h6, h7, h8⟩ := ptrL_inj (by omega) hd.gen hd.sum (by omega) hc.gen hc.sum h4
  refine ⟨?_, h5.symm⟩
  obtain ⟨lo, ad, ge, su⟩ := c
  obtain ⟨lo', ad', ge', su'⟩ := d
  dsimp only at *
  subst h2 h7 h8
  rw [show ad = ad' by omega]
theorem chT_len (c : Chd) : (chT c).length = c.low.length + 17 := by unfold chT; rw [List.length_append, joinT_len, ptrL_len]
def kidsT (cs : List Chd) : List UInt8 := cs.flatMap chT
theorem kidsT_cons (c : Chd) (cs : List Chd) : kidsT (c :: cs) = chT c ++ kidsT cs := rfl
theorem kidsT_app (a b : List Chd) : kidsT (a ++ b) = kidsT a ++ kidsT b := by unfold kidsT; rw [List.flatMap_append]
theorem kidsT_step {l : List Chd} {i : Nat} (hi : i < l.length) : kidsT (l.take (i + 1)) = kidsT (l.take i) ++ chT l[i] := by
  rw [List.take_succ_eq_append_getElem hi, kidsT_app]; simp [kidsT]
theorem kidsT_len : ∀ l : List Chd, (∀ c ∈ l, c.low.length ≤ 255) → (kidsT l).length ≤ 272 * l.length
  | [], _ => by simp [kidsT]
  | c :: l, h => by
    have h1 := kidsT_len l (fun x hx => h x (List.mem_cons_of_mem _ hx))
    have h2 := h c (List.mem_cons_self ..)
    rw [kidsT_cons, List.length_append, chT_len, List.length_cons]; omega
theorem kidsT_inj : ∀ (a b : List Chd) (r r' : List UInt8), a.length = b.length → (∀ c ∈ a, ChdIs c) → (∀ c ∈ b, ChdIs c) → kidsT a ++ r = kidsT b ++ r' → a = b ∧ r = r'
  | [], [], r, r', _, _, _, h => ⟨rfl, by simpa [kidsT] using h⟩
  | [], _ :: _, _, _, hl, _, _, _ => by simp at hl
  | _ :: _, [], _, _, hl, _, _, _ => by simp at hl
  | c :: a, d :: b, r, r', hl, ha, hb, h => by
    rw [kidsT_cons, kidsT_cons, List.append_assoc, List.append_assoc] at h
    obtain ⟨rfl, h1⟩ := chT_inj (ha c (List.mem_cons_self ..)) (hb d (List.mem_cons_self ..)) h
    obtain ⟨rfl, rfl⟩ := kidsT_inj a b r r' (by simpa using hl) (fun x hx => ha x (List.mem_cons_of_mem _ hx)) (fun x hx => hb x (List.mem_cons_of_mem _ hx)) h1
    exact ⟨rfl, rfl⟩
/-- .. where one has less. -/
theorem kidsT_head : ∀ (a b : List Chd) (r r' : List UInt8), a.length < b.length → (∀ c ∈ a, ChdIs c) → (∀ c ∈ b, ChdIs c) → kidsT a ++ r = kidsT b ++ r' → ∃ c t, c ∈ b ∧ r = chT c ++ t
  | [], d :: b, r, r', _, _, hb, h => ⟨d, kidsT b ++ r', List.mem_cons_self .., by rw [kidsT_cons, List.append_assoc] at h; simpa [kidsT] using h⟩
  | [], [], _, _, hl, _, _, _ => by simp at hl
  | _ :: _, [], _, _, hl, _, _, _ => by simp at hl
  | c :: a, d :: b, r, r', hl, ha, hb, h => by
    rw [kidsT_cons, kidsT_cons, List.append_assoc, List.append_assoc] at h
    obtain ⟨rfl, h1⟩ := chT_inj (ha c (List.mem_cons_self ..)) (hb d (List.mem_cons_self ..)) h
    obtain ⟨e, t, h2, h3⟩ := kidsT_head a b r r' (by simpa using hl) (fun x hx => ha x (List.mem_cons_of_mem _ hx)) (fun x hx => hb x (List.mem_cons_of_mem _ hx)) h1
    exact ⟨e, t, List.mem_cons_of_mem _ h2, h3⟩

/-- Children that may be. -/
structure RightC (cs : List Chd) : Prop where
  len : 1 ≤ cs.length ∧ cs.length ≤ 16
  ok : ∀ c ∈ cs, ChdOk c
  first : ∀ c, cs[0]? = some c → c.low = []
  rising : Rising Chd.low cs
def textN (cs : List Chd) (us : List Upd) : List UInt8 := UInt8.ofNat cs.length :: (kidsT cs ++ textU us)
/-- A node that may be. -/
structure NodeOk (cs : List Chd) (us : List Upd) : Prop where
  kids : RightC cs
  len : us.length ≤ 64
  ok : ∀ u ∈ us, Okay u
  rising : Rising Upd.key us
theorem textN_prefix {cs cs' : List Chd} {us us' : List Upd} {r : List UInt8} (h : NodeOk cs us) (h' : NodeOk cs' us') (e : textN cs' us' ++ r = textN cs us) : cs' = cs ∧ ∃ t, us = us' ++ t ∧ r = textU t := by
  unfold textN at e
  rw [List.cons_append, List.append_assoc] at e
  injection e with e1 e2
  have l1 := h.kids.len
  have l2 := h'.kids.len
  have hl : cs'.length = cs.length := by
    have := congrArg UInt8.toNat e1
    rwa [ofNat_toNat_lt (by omega), ofNat_toNat_lt (by omega)] at this
  obtain ⟨rfl, h3⟩ := kidsT_inj cs' cs _ _ hl (fun c hc => (h'.kids.ok c hc).is) (fun c hc => (h.kids.ok c hc).is) e2
  exact ⟨rfl, textU_prefix us' us r h'.ok h.ok h3⟩
theorem textN_inj {cs cs' : List Chd} {us us' : List Upd} (h : NodeOk cs us) (h' : NodeOk cs' us') (e : textN cs' us' = textN cs us) : cs' = cs ∧ us' = us := by
  obtain ⟨h1, t, rfl, h3⟩ := textN_prefix (r := []) h h' (by rw [List.append_nil]; exact e)
  refine ⟨h1, ?_⟩
  cases t with
  | nil => simp
  | cons u t =>
    rw [textU_cons] at h3
    exact absurd (List.append_eq_nil_iff.1 h3.symm).1 (bytes_ne (h.ok u (by simp)))
theorem textN_len {cs : List Chd} {us : List Upd} (h : NodeOk cs us) : (textN cs us).length ≤ 8200 := by
  have h1 := kidsT_len cs (fun c hc => (h.kids.ok c hc).is.low)
  have h2 := textU_len60 us h.ok
  have h3 := h.kids.len
  have h4 := h.len
  unfold textN
  rw [List.length_cons, List.length_append]; omega

/-- A head that says k children, k read. -/
theorem textN_read {k : Nat} {cs cs' : List Chd} {us' : List Upd} {r : List UInt8} (hk : k < 256) (hl : cs.length = k) (hc : ∀ c ∈ cs, ChdIs c) (h' : NodeOk cs' us') (e : UInt8.ofNat k :: (kidsT cs ++ r) = textN cs' us') : cs' = cs ∧ r = textU us' := by
  unfold textN at e
  injection e with e1 e2
  have l2 := h'.kids.len
  have hll : cs.length = cs'.length := by
    have := congrArg UInt8.toNat e1
    rw [ofNat_toNat_lt hk, ofNat_toNat_lt (by omega)] at this
    omega
  obtain ⟨h1, h2⟩ := kidsT_inj cs cs' _ _ hll hc (fun c hc => (h'.kids.ok c hc).is) e2
  exact ⟨h1.symm, h2⟩
/-- .. less than k read. -/
theorem textN_more {k : Nat} {cs cs' : List Chd} {us' : List Upd} {r : List UInt8} (hk : k < 256) (hl : cs.length < k) (hc : ∀ c ∈ cs, ChdIs c) (h' : NodeOk cs' us') (e : UInt8.ofNat k :: (kidsT cs ++ r) = textN cs' us') : ∃ c t, ChdOk c ∧ r = chT c ++ t := by
  unfold textN at e
  injection e with e1 e2
  have l2 := h'.kids.len
  have hll : cs.length < cs'.length := by
    have := congrArg UInt8.toNat e1
    rw [ofNat_toNat_lt hk, ofNat_toNat_lt (by omega)] at this
    omega
  obtain ⟨c, t, h1, h2⟩ := kidsT_head cs cs' _ _ hll hc (fun c hc => (h'.kids.ok c hc).is) e2
  exact ⟨c, t, h'.kids.ok c h1, h2⟩

end Go.Proofs.YtafciefjlkdecaaGreat
