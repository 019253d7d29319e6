/-
  The walks of Next as one, of Skip, and of Rest.
-/
import Derived.Test.YthcjcmalfnfjkaaSke
import Derived.Test.YthcjcmalfnfjkaaSkp
namespace Go.Proofs.Ythcjcmalfnfjkaa
open Go.RowKit
set_option linter.unusedVariables false
attribute [local go_sem ↓] Go.wp_at_zero Go.wp_at_succ

theorem fillS_err (L : List Ent) (fail : Int) (A : List Int) (C : CurS) : (fillS L fail A C).1 = 0 ∨ (fillS L fail A C).1 = 10 := by
  unfold fillS
  split
  · exact Or.inl rfl
  · split
    · exact Or.inr rfl
    · exact Or.inl rfl
theorem next_any (B0 B1 p q : Nat) (va : Value) (L : List Ent) (A : List Int) (fail : Int) (C : CurS) (w : World) (h : St w B0 B1 p q va L fail A C) (hA : A.length ≤ 1000000) (hL : L.length ≤ 1000) (hk : ∀ x ∈ (fillS L fail A C).2.2.left, x.key.length ≤ 1000000) :
    Calls Try.prog 28 #[.pointer (some ⟨p, 0, none⟩)] w (NextPost w B0 B1 p q va L fail (nextS L fail A C)) := by
  have he := fillS_err L fail A C
  unfold nextS
  generalize hR : fillS L fail A C = R at *
  obtain ⟨err, A', C'⟩ := R
  dsimp only at he hk ⊢
  rcases he with rfl | rfl
  · rw [if_pos rfl]
    unfold popS
    cases hl : C'.left with
    | nil =>
      have := next_none B0 B1 p q va L A A' fail C C' 0 w h hA hL hR (Or.inr hl) (by decide)
      exact this
    | cons x t =>
      exact next_some B0 B1 p q va L A A' fail C C' x t w h hA hL hR hl (hk x (by rw [hl]; simp))
  · rw [if_neg (by decide)]
    exact next_none B0 B1 p q va L A A' fail C C' 10 w h hA hL hR (Or.inl (by decide)) (by decide)

theorem skip_nil (k : ByteArray) (w : World) : Calls Try.prog 30 #[.pointer none, .string k] w fun e w' => e = .returned (.tuple #[]) ∧ w = w' := by
  go_enter Try.func30, Try.ntmps30
  go_wp2_with fail
  exact bodyPost_ret (v := .tuple #[]) (by simp [results, Try.results30, go_sem]) rfl ⟨rfl, rfl⟩
/-- Skip, told by skipS. -/
def SkipPost (w : World) (B0 B1 p q : Nat) (va : Value) (L : List Ent) (fail : Int) (A : List Int) (C : CurS) (e : Ending) (w' : World) : Prop :=
  e = .returned (.tuple #[]) ∧ St w' B0 B1 p q va L fail A C ∧ Chg p q va w w'
set_option maxRecDepth 100000 in
set_option maxHeartbeats 4000000 in
theorem skip_any (B0 B1 p q : Nat) (va : Value) (L : List Ent) (A : List Int) (fail : Int) (C : CurS) (k : List UInt8) (w : World) (h : St w B0 B1 p q va L fail A C) :
    Calls Try.prog 30 #[.pointer (some ⟨p, 0, none⟩), .string (S k)] w (SkipPost w B0 B1 p q va L fail A (skipS C k)) := by
  have c1 := h.cu.c1
  cases hb : bl C.place k with
  | false =>
    have e : skipS C k = C := by unfold skipS; rw [if_neg (by rw [hb]; simp)]
    rw [e]
    have HS := Lib.hid h
    clear h
    rcases bl_not hb with h1 | h1
    · subst h1
      go_enter Try.func30, Try.ntmps30
      go_wp2_with fail
      go_end0
      exact ⟨rfl, HS.out, Chg.refl _ _ _ _⟩
    · have h2 : Op.bytesLess k C.place = true := h1
      clear h1 hb
      go_enter Try.func30, Try.ntmps30
      go_wp2_with fail
      go_end0
      exact ⟨rfl, HS.out, Chg.refl _ _ _ _⟩
  | true =>
    have e : skipS C k = { C with place := k, over := false, left := [] } := by unfold skipS; rw [if_pos hb]
    rw [e]
    have h1 : Op.bytesLess k C.place = false := bl_asymm hb
    have h2 : (k == C.place) = false := by simpa using fun e : k = C.place => bl_ne hb e.symm
    obtain ⟨v4, c4, -⟩ := h.cu.c4
    have c5 := h.cu.c5
    have f1 := h.cu.f1
    have f4 := h.cu.f4
    have f5 := h.cu.f5
    have HS := Lib.hid h
    clear h hb
    go_enter Try.func30, Try.ntmps30
    go_wp2_with fail
    go_end0
    refine ⟨rfl, ⟨?_, ((HS.out.sh.setCell HS.out.cu.lt HS.out.cu.ge HS.out.cu.ne _).setCell HS.out.cu.lt HS.out.cu.ge HS.out.cu.ne _).setCell HS.out.cu.lt HS.out.cu.ge HS.out.cu.ne _, by simp only [World.size_setCell]; exact HS.out.le⟩, (((Chg.refl _ _ _ _).setCell _).setCell _).setCell _⟩
    have h1 : ∀ o, o ≠ 1 → o ≠ 4 → o ≠ 5 → ((((w.setCell ⟨p, 1, none⟩ (.string (S k))).setCell ⟨p, 5, none⟩ (.bool false)).setCell ⟨p, 4, none⟩ (.slice none 0 0)).cell? ⟨p, o, none⟩ = w.cell? ⟨p, o, none⟩) := fun o h1 h4 h5 => by
      rw [World.cell?_setCell_other _ _ _ _ (addr_ne (Or.inr (Ne.symm h4))), World.cell?_setCell_other _ _ _ _ (addr_ne (Or.inr (Ne.symm h5))), World.cell?_setCell_other _ _ _ _ (addr_ne (Or.inr (Ne.symm h1)))]
    have hc := HS.out.cu
    refine ⟨(h1 0 (by decide) (by decide) (by decide)).trans hc.c0, ?_, (h1 2 (by decide) (by decide) (by decide)).trans hc.c2, (h1 3 (by decide) (by decide) (by decide)).trans hc.c3, ⟨.slice none 0 0, ?_, LeftAt.nil _ _⟩, ?_, ?_, ?_, ?_, hc.lt, hc.ne, hc.ge⟩
    · rw [World.cell?_setCell_other _ _ _ _ (addr_ne (Or.inr (by decide))), World.cell?_setCell_other _ _ _ _ (addr_ne (Or.inr (by decide)))]; exact World.cell?_setCell_same _ _ _ c1
    · exact World.cell?_setCell_same _ _ _ ((World.cell?_setCell_other _ _ _ _ (addr_ne (Or.inr (by decide)))).trans ((World.cell?_setCell_other _ _ _ _ (addr_ne (Or.inr (by decide)))).trans c4))
    · rw [World.cell?_setCell_other _ _ _ _ (addr_ne (Or.inr (by decide)))]; exact World.cell?_setCell_same _ _ _ ((World.cell?_setCell_other _ _ _ _ (addr_ne (Or.inr (by decide)))).trans c5)
    · simp only [World.frozen?_setCell]; exact hc.f1
    · simp only [World.frozen?_setCell]; exact hc.f4
    · simp only [World.frozen?_setCell]; exact hc.f5
theorem nextS_big {L : List Ent} {fail : Int} {A : List Int} {C : CurS} (hL : ∀ x ∈ L, x.key.length ≤ 1000) (hC : ∀ x ∈ C.left, x ∈ L) : (∀ x ∈ (fillS L fail A C).2.2.left, x ∈ L) ∧ (∀ x ∈ (nextS L fail A C).2.2.2.left, x ∈ L) ∧ (nextS L fail A C).2.2.1.length ≤ A.length + 1 ∧ (∀ x, (nextS L fail A C).1 = some x → x ∈ L) := by
  have h1 : (∀ x ∈ (fillS L fail A C).2.2.left, x ∈ L) ∧ (fillS L fail A C).2.1.length ≤ A.length + 1 := by
    unfold fillS
    split
    · exact ⟨hC, by simp⟩
    · split
      · exact ⟨hC, by simp⟩
      · refine ⟨fun x hx => ?_, by simp⟩
        have := List.mem_of_mem_take hx
        exact (List.mem_filter.1 this).1
  refine ⟨h1.1, ?_⟩
  unfold nextS
  generalize fillS L fail A C = R at *
  obtain ⟨e, A', C'⟩ := R
  dsimp only at h1 ⊢
  split
  · unfold popS
    cases hl : C'.left with
    | nil => exact ⟨h1.1, h1.2, fun x hx => by simp at hx⟩
    | cons y t => exact ⟨fun x hx => h1.1 x (by rw [hl]; exact List.mem_cons_of_mem _ hx), h1.2, fun x hx => by simp at hx; subst hx; exact h1.1 y (by rw [hl]; simp)⟩
  · exact ⟨h1.1, h1.2, fun x hx => by simp at hx⟩
theorem rest_nil (n : Int) (w : World) : Calls Try.prog 29 #[.pointer none, .int .i64 n] w fun e w' => e = .returned (.tuple #[.slice none 0 0, .int .i64 1]) ∧ w = w' := by
  go_enter Try.func29, Try.ntmps29
  go_wp2_with fail
  go_ret2
  exact ⟨rfl, rfl⟩
/-- Rest, told by restS. -/
def RestPost (w : World) (B0 B1 p q : Nat) (va : Value) (L : List Ent) (fail : Int) (R : List Ent × Nat × List Int × CurS) (e : Ending) (w' : World) : Prop :=
  ∃ a c, e = .returned (.tuple #[.slice a R.1.length c, .int .i64 R.2.1]) ∧ w'.ownsRow w.heap.size 55 2 (.slice a R.1.length c) R.1.length (cellsE R.1) ∧ ∃ va', St w' B0 B1 p q va' L fail R.2.2.1 R.2.2.2 ∧ Chg p q va w w' ∧ (va'.ownBlock = va.ownBlock ∨ ∃ k, va'.ownBlock = some k ∧ w.heap.size ≤ k)
theorem own_chg {w w' : World} {B k n : Nat} {E : TypeId} {v : Value} {xs : List Value} (h : w.ownsRow B E k v n xs) (hk : ∀ g, v.ownBlock = some g → w'.heap[g]? = w.heap[g]?) : w'.ownsRow B E k v n xs := by
  obtain ⟨hl, h3 | ⟨g, cap, cur, e, h4, h5, h6⟩⟩ := h
  · exact ⟨hl, Or.inl h3⟩
  · subst e
    exact ⟨hl, Or.inr ⟨g, cap, cur, rfl, h4, (hk g rfl).trans h5, h6⟩⟩
/-- A row of the call's own has grown. -/
theorem St.grow {w w' : World} {B0 B1 p q : Nat} {va : Value} {L : List Ent} {fail : Int} {A : List Int} {C : CurS} {r : Option Nat} (h : St w B0 B1 p q va L fail A C) (hg : w.grownBy w' r) (hr : ∀ k, r = some k → B1 ≤ k ∧ va.ownBlock ≠ some k ∧ NotAt w p k) : St w' B0 B1 p q va L fail A C := by
  have hp := h.cu.lt
  have hq := h.sh.lt
  have hle := h.sh.le
  have far : ∀ b, b < B1 → some b ≠ r := fun b hb e => by have := (hr b e.symm).1; omega
  have hpb : w'.heap[p]? = w.heap[p]? := hg.block p (World.block_lt_of_cell? w _ h.cu.c0) (far p hp)
  have hqb : w'.heap[q]? = w.heap[q]? := hg.block q (World.block_lt_of_cell? w _ h.sh.c1) (far q hq)
  have hcp : ∀ o v, w.cell? ⟨p, o, none⟩ = some v → w'.cell? ⟨p, o, none⟩ = some v := fun o v e => (World.cell?_of_block hpb).trans e
  have hcq : ∀ o v, w.cell? ⟨q, o, none⟩ = some v → w'.cell? ⟨q, o, none⟩ = some v := fun o v e => (World.cell?_of_block hqb).trans e
  obtain ⟨v4, h4, hl⟩ := h.cu.c4
  obtain ⟨aL, cL, h0, hrw⟩ := h.sh.c0
  refine ⟨⟨hcp _ _ h.cu.c0, hcp _ _ h.cu.c1, hcp _ _ h.cu.c2, hcp _ _ h.cu.c3, ⟨v4, hcp _ _ h4, ?_⟩, hcp _ _ h.cu.c5, (World.frozen?_of_block hpb).trans h.cu.f1, (World.frozen?_of_block hpb).trans h.cu.f4, (World.frozen?_of_block hpb).trans h.cu.f5, hp, h.cu.ne, h.cu.ge⟩,
    ⟨⟨aL, cL, hcq _ _ h0, ?_⟩, hcq _ _ h.sh.c1, hcq _ _ h.sh.c2, (World.frozen?_of_block hqb).trans h.sh.f1, (World.frozen?_of_block hqb).trans h.sh.f2, own_chg h.sh.own (fun g e => hg.block g (h.sh.own.lt g e).2 (fun e' => (hr g e'.symm).2.1 e)), hq, hle⟩, Nat.le_trans h.le hg.size⟩
  · obtain ⟨ao, c, rfl, g1, g2, g3⟩ := hl
    refine ⟨ao, c, rfl, g1, g2, ?_⟩
    rcases g3 with g3 | ⟨b, off, cur, rfl, g4, g5, g6⟩
    · exact Or.inl g3
    · by_cases hlen : 0 < C.left.length
      · exact Or.inr ⟨b, off, cur, rfl, g4, (hg.block b g5.lt (fun e => (hr b e.symm).2.2 _ _ _ h4 hlen _ rfl rfl)).trans g5, g6⟩
      · exact Or.inl (List.length_eq_zero_iff.1 (by omega))
  · rcases hrw with hrw | ⟨b, off, rfl, g1, g2, g3⟩
    · exact Or.inl hrw
    · refine Or.inr ⟨b, off, rfl, g1, g2, fun i hi j x hx => ?_⟩
      have hc := g3 i hi j x hx
      exact (World.cell?_of_block (hg.block b (World.block_lt_of_cell? w _ hc) (far b (by omega)))).trans hc
theorem NotAt.grow {w w' : World} {p z : Nat} (h : NotAt w p z) (hb : w'.heap[p]? = w.heap[p]?) : NotAt w' p z := fun a n c hcell => by
  rw [World.cell?_of_block hb] at hcell
  exact h a n c hcell
theorem cell_two_at2 (w : World) (o : Obj) (b : Nat) (hb : w.heap.size + 1 = b) (x y : Value) (t : TypeId) : ∀ j v, [x, y][j]? = some v → ((w.alloc o).alloc (.cells #[x, y] t)).cell? ((⟨b, 0, none⟩ : Addr).add j) = some v := cell_two_at _ _ (by rw [World.size_alloc]; exact hb) _ _ _
theorem cur_sub {L : List Ent} {C : CurS} (h : CurOk L C) : ∀ x ∈ C.left, x ∈ L := fun x hx => by
  rw [h.left] at hx
  exact (List.mem_filter.1 (List.mem_of_mem_take hx)).1
set_option maxRecDepth 100000 in
set_option maxHeartbeats 8000000 in
theorem rest_any (B0 B1 p q : Nat) (va : Value) (L : List Ent) (A : List Int) (fail : Int) (C : CurS) (n : Int) (w : World) (h : St w B0 B1 p q va L fail A C) (hA : A.length ≤ 100000) (hL : L.length ≤ 1000) (hLk : ∀ x ∈ L, x.key.length ≤ 1000) (hC : CurOk L C) (hf : fail ≤ 0) (hn : n ≤ 9223372036854775807) :
    Calls Try.prog 29 #[.pointer (some ⟨p, 0, none⟩), .int .i64 n] w (RestPost w B0 B1 p q va L fail (restS L fail n.toNat A C [])) := by
  obtain ⟨j0, hjE, jz0, jz1, jz2⟩ := info_parts infoE
  have HS0 := Lib.hid h
  have HC0 := Lib.hid hC
  have HLK := Lib.hid hLk
  have hle := h.le
  have hplt := h.cu.lt
  have hqlt := h.sh.lt
  generalize hRR : restS L fail n.toNat A C [] = RR at *
  have HRR := Lib.hid hRR
  have hrl : (remL L C).length ≤ L.length := List.length_filter_le _ _
  have HVL := Lib.hid (fun k (e : va.ownBlock = some k) => (h.sh.own.lt k e).2)
  clear h hRR hC hLk
  go_enter Try.func29, Try.ntmps29
  go_wp2_with fail
  go_loopw [6] (fun v wr => ∃ (o : List Ent) (A' : List Int) (C' : CurS) (va' : Value), Hid (RR = restS L fail (n.toNat - o.length) A' C' o ∧ CurOk L C' ∧ (o = [] ∨ o.length ≤ n.toNat)) ∧ o.length + (remL L C').length ≤ L.length ∧ A'.length ≤ A.length + o.length ∧ Hid (wr.ownsRow w.heap.size 55 2 v o.length (cellsE o)) ∧ Hid (St wr B0 B1 p q va' L fail A' C') ∧ Hid (Chg p q va w wr) ∧ Hid ((va'.ownBlock = va.ownBlock ∨ ∃ k, va'.ownBlock = some k ∧ w.heap.size ≤ k) ∧ ∀ k, v.ownBlock = some k → NotAt wr p k)) (fun v wr => 1001 - (match v with | .slice _ k _ => k | _ => 0))
  case atStart => exact ⟨[], A, C, va, Lib.hid ⟨HRR.out.symm, HC0.out, Or.inl rfl⟩, by simpa using hrl, by simp, Lib.hid (World.ownsRow_nil _ _ _ _), HS0, Lib.hid (Chg.refl _ _ _ _), Lib.hid ⟨Or.inl rfl, fun k e => by simp [Value.ownBlock] at e⟩⟩
  case round =>
    obtain ⟨o, A', C', va', HO, hol, hAl, HOWN, HS, HCG, HVB⟩ := hrel
    obtain ⟨ov, oc, eo⟩ := own_form HOWN.out
    subst eo
    have hzr := HCG.out.size
    by_cases hlt : (o.length : Int) < n
    · obtain ⟨h1, h2, h3⟩ := HO.out
      obtain ⟨g1, g2, g3, g4⟩ := next_spec (fail := fail) (A := A') h2
      have hna := nextS_asks L fail A' C'
      have hfa := fillS_asks L fail A' C'
      rw [← hna] at hfa
      clear hna
      have HN := Lib.hid (next_any B0 B1 p q va' L A' fail C' wr HS.out (by omega) (by omega) (fun x hx => Nat.le_trans (HLK.out x ((nextS_big HLK.out (cur_sub h2)).1 x hx)) (by omega)))
      have hbig := (nextS_big (fail := fail) (A := A') HLK.out (cur_sub h2)).2.2.2
      generalize hR : nextS L fail A' C' = R at *
      obtain ⟨x, e, A2, C2⟩ := R
      dsimp only at *
      unfold NextPost at HN
      dsimp only at HN
      rcases g4 with ⟨rfl, g5, g6⟩ | ⟨-, -, -, g7⟩
      · have hm : n.toNat - o.length = (n.toNat - o.length - 1) + 1 := by omega
        cases hr : remL L C' with
        | nil =>
          rw [hr] at g5 g6
          simp at g5
          subst g5
          have hRR2 : RR = (o, 0, A2, C2) := by rw [h1, hm]; exact restS_end hR
          have HRR2 := Lib.hid hRR2
          clear h1 h2 h3 g1 g2 g3 g6 hR hr HO HRR hm hRR2
          go_wp2_with fail
          refine HN.out.mono ?_
          rintro e w3 ⟨rfl, vb, hst, hch, hvb, hnt⟩
          unfold tellV entO
          simp only [Option.isSome]
          have HST := Lib.hid hst
          have hown3 := own_chg HOWN.out (fun g e => hch.block g (HOWN.out.lt g e).2 (by have := (HOWN.out.lt g e).1; omega) (by have := (HOWN.out.lt g e).1; omega) (fun e' => by
            rcases own_kinds HOWN.out HS.out.sh.own (by decide) with h0 | h0
            · rw [h0] at e; exact absurd e (by simp)
            · exact h0 (e.trans e'.symm)))
          have HOWN3 := Lib.hid hown3
          have HCG3 := Lib.hid (HCG.out.trans hch (fun i hi e => by
            rcases HVB.out.1 with h0 | ⟨k, h0, h1⟩
            · rw [← h0]; exact e
            · rw [h0] at e; injection e with e; omega))
          have HVB3 := Lib.hid (show vb.ownBlock = va.ownBlock ∨ ∃ k, vb.ownBlock = some k ∧ w.heap.size ≤ k from by
            rcases hvb with h0 | ⟨k, h0, h1⟩
            · rw [h0]; exact HVB.out.1
            · exact Or.inr ⟨k, h0, by omega⟩)
          have hz3 := hch.size
          clear hst hch hvb hnt hown3 HN
          go_wp2_with fail
          have hX3 : Below w3.heap.size w3 (w3.alloc (.cells #[.string ⟨#[]⟩, .string ⟨#[]⟩] 55)) := by go_grown
          refine bodyPost_ret (v := .tuple #[.slice ov o.length oc, .int .i64 0]) (by simp [results, Try.results29, go_sem]) rfl ?_
          rw [HRR2.out]
          exact ⟨ov, oc, rfl, own_below HOWN3.out hX3, vb, HST.out.on hX3, HCG3.out.trans (Chg.of_below (va := va) hX3) (fun i _ e => e), HVB3.out⟩
        | cons y t =>
          rw [hr] at g5 g6
          simp at g5
          subst g5
          have hRR2 : RR = restS L fail (n.toNat - (o ++ [y]).length) A2 C2 (o ++ [y]) := by rw [h1, hm, restS_go hR]; congr 1; simp; omega
          have HRR2 := Lib.hid hRR2
          have HC2 := Lib.hid g1
          have hrl2 : (remL L C2).length + 1 = (remL L C').length := by rw [g6, hr]; simp
          have hkl : y.key.length ≤ 1000 := HLK.out y (hbig y rfl)
          have hol2 : (o ++ [y]).length ≤ n.toNat := by simp; omega
          have hAl2 : A2.length ≤ A.length + (o.length + 1) := by omega
          have hrl3 : o.length + 1 + (remL L C2).length ≤ L.length := by omega
          clear h1 h2 h3 g1 g2 g3 g6 hR hr HO HRR hm hRR2 hbig hrl2
          go_wp2_with fail
          refine HN.out.mono ?_
          rintro e w3 ⟨rfl, vb, hst, hch, hvb, hnt⟩
          unfold tellV entO entV
          simp only [Option.isSome]
          have HST := Lib.hid hst
          have hown3 := own_chg HOWN.out (fun g e => hch.block g (HOWN.out.lt g e).2 (by have := (HOWN.out.lt g e).1; omega) (by have := (HOWN.out.lt g e).1; omega) (fun e' => by
            rcases own_kinds HOWN.out HS.out.sh.own (by decide) with h0 | h0
            · rw [h0] at e; exact absurd e (by simp)
            · exact h0 (e.trans e'.symm)))
          have HOWN3 := Lib.hid hown3
          have HCG3 := Lib.hid (HCG.out.trans hch (fun i hi e => by
            rcases HVB.out.1 with h0 | ⟨k, h0, h1⟩
            · rw [← h0]; exact e
            · rw [h0] at e; injection e with e; omega))
          have HVB3 := Lib.hid (show vb.ownBlock = va.ownBlock ∨ ∃ k, vb.ownBlock = some k ∧ w.heap.size ≤ k from by
            rcases hvb with h0 | ⟨k, h0, h1⟩
            · rw [h0]; exact HVB.out.1
            · exact Or.inr ⟨k, h0, by omega⟩)
          have HNT3 := Lib.hid (show ∀ k, (Value.slice ov o.length oc).ownBlock = some k → NotAt w3 p k from fun k e => hnt k (HOWN.out.lt k e).2 (HVB.out.2 k e))
          have HVA := Lib.hid (show ∀ k, (Value.slice ov o.length oc).ownBlock = some k → vb.ownBlock ≠ some k from fun k e e' => by
            rcases own_kinds HOWN3.out HST.out.sh.own (by decide) with h0 | h0
            · rw [h0] at e; exact absurd e (by simp)
            · exact h0 (e.trans e'.symm))
          have hz3 := hch.size
          clear hst hch hvb hnt hown3 HN HS HVB HOWN HCG
          have hX3 : Below w3.heap.size w3 ((w3.alloc (.cells #[.string (S y.key), .string (S y.val)] 55)).alloc (.cells #[.string (S y.key), .string (S y.val)] 55)) := by go_grown
          have HX3 := Lib.hid hX3
          clear hX3
          go_wp2_with (at_builtin; go_must (refine wpList_append_own_at _ rfl (.tmp 27) (.tmp 29) 49 rfl w.heap.size 55 j0 (.agg #[.string ByteArray.empty, .string ByteArray.empty]) 2 32 Try.underlying49 hjE jz0 jz1 jz2 rfl (by decide) _ o.length _ rfl (own_below HOWN3.out HX3.out) ⟨w3.heap.size + 1, 0, none⟩ 1 1 [.string (S y.key), .string (S y.val)] rfl rfl (cell_two_at2 _ _ _ rfl _ _ _) (two_oneCell _ _) (by unfold maxLen; omega) (by omega) (by simp; omega) ?_; intro vz wz hownwz hgrowwz hzz hbz; obtain ⟨gz, cz, ez⟩ := own_form hownwz; subst ez))
          have hpb : wz.heap[p]? = w3.heap[p]? := (hgrowwz.block p (by simp; omega) (fun e => by have := (HOWN3.out.lt p e.symm).1; omega)).trans (HX3.out.block p (by omega))
          have hSz := Lib.hid ((HST.out.on HX3.out).grow hgrowwz (fun k e => ⟨by have := (HOWN3.out.lt k e).1; omega, HVA.out k e, (HNT3.out k e).grow (HX3.out.block p (by omega))⟩))
          have hCz := Lib.hid (show Chg p q va w wz from ⟨hgrowwz.os.trans (HX3.out.os.trans HCG3.out.os), hgrowwz.tape.trans (HX3.out.tape.trans HCG3.out.tape), hgrowwz.output.trans (HX3.out.output.trans HCG3.out.output), by have := hgrowwz.size; simp at this; omega, fun k hk h1 h2 h3 => (hgrowwz.block k (by simp; omega) (fun e => by have := (HOWN3.out.lt k e.symm).1; omega)).trans ((HX3.out.block k (by omega)).trans (HCG3.out.block k hk h1 h2 h3))⟩)
          have hNz := Lib.hid (show ∀ k, (Value.slice gz (o.length + 1) cz).ownBlock = some k → NotAt wz p k from fun k e => by
            rcases hbz with h0 | h0
            · rw [h0] at e; exact (HNT3.out k e).grow hpb
            · rw [h0] at e; injection e with e; exact (HST.out.notAt (z := k) (by rw [← e]; simp; omega)).grow hpb)
          have hOz := Lib.hid hownwz
          clear hownwz hgrowwz hbz hpb hzz
          go_wp2_with fail
          exact ⟨⟨o ++ [y], A2, C2, vb, Lib.hid ⟨HRR2.out, HC2.out, Or.inr hol2⟩, by simp; omega, by simp; omega, Lib.hid (by rw [cellsE_snoc, List.length_append, List.length_singleton]; exact hOz.out), hSz, hCz, Lib.hid ⟨HVB3.out, hNz.out⟩⟩, by simp; omega⟩
      · omega
    · have hm0 : n.toNat - o.length = 0 := by omega
      have hRR2 : RR = (o, 0, A', C') := by have := HO.out.1; rw [hm0] at this; exact this
      have HRR2 := Lib.hid hRR2
      clear hRR2 hm0
      go_wp2_with fail
      refine bodyPost_ret (v := .tuple #[.slice ov o.length oc, .int .i64 0]) (by simp [results, Try.results29, go_sem]) rfl ?_
      rw [HRR2.out]
      exact ⟨ov, oc, rfl, HOWN.out, va', HS.out, HCG.out, HVB.out.1⟩

end Go.Proofs.Ythcjcmalfnfjkaa
