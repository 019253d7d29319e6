/-
  Plain laws of BufOrder's end: the lesser and the greater of two keys, and the three parts.
-/
import Derived.Test.YtcjeonamebnpfaaOrdT
import Derived.Deep.AppendLies
namespace Go.Proofs.Ytcjeonamebnpfaa
open Go.RowKit

theorem run_two (s0 s1 : List UInt8) : ∃ lo hi : List UInt8, (∀ ts t w, (Builtin.min_ ts t #[.string (S s0), .string (S s1)]).run Try.prog w = .ok (.string (S lo)) w) ∧ (∀ ts t w, (Builtin.max_ ts t #[.string (S s0), .string (S s1)]).run Try.prog w = .ok (.string (S hi)) w) ∧ bl hi lo = false := by
  have eS : ∀ l : List UInt8, (S l).toList = l := S_toList
  rcases bl_tri s0 s1 with h | h | h
  · subst h
    have h0 := bl_irrefl s0
    refine ⟨s0, s0, fun ts t w => ?_, fun ts t w => ?_, h0⟩
    · simp [Builtin.min_, Builtin.min2, Op.stringOp, asBool]
    · simp [Builtin.max_, Builtin.max2, Op.stringOp, asBool, eS, h0]
  · have h2 := bl_asymm h
    refine ⟨s0, s1, fun ts t w => ?_, fun ts t w => ?_, h2⟩
    · simp [Builtin.min_, Builtin.min2, Op.stringOp, asBool, eS, h]
    · simp [Builtin.max_, Builtin.max2, Op.stringOp, asBool, eS, h]
  · have h2 := bl_asymm h
    have hne' : ¬ s0 = s1 := fun e => bl_ne h e.symm
    refine ⟨s1, s0, fun ts t w => ?_, fun ts t w => ?_, h2⟩
    · simp [Builtin.min_, Builtin.min2, Op.stringOp, asBool, eS, h2, hne']
    · simp [Builtin.max_, Builtin.max2, Op.stringOp, asBool, eS, h2]

theorem below_nil (A : List Upd) : below Upd.key A [] = 0 := by
  unfold below
  rw [List.countP_eq_zero]
  intro a _
  rw [bl_nil]; simp
theorem Rising.drop {A : List Upd} (h : Rising Upd.key A) (n : Nat) : Rising Upd.key (A.drop n) := List.Pairwise.sublist (List.drop_sublist n A) h
theorem Rising.take {A : List Upd} (h : Rising Upd.key A) (n : Nat) : Rising Upd.key (A.take n) := List.Pairwise.sublist (List.take_sublist n A) h
theorem below_rest {A : List Upd} (h : Rising Upd.key A) (lo : List UInt8) : below Upd.key (A.drop (below Upd.key A lo)) lo = 0 := by
  unfold below
  rw [List.countP_eq_zero]
  intro a ha
  obtain ⟨i, hi, rfl⟩ := List.getElem_of_mem ha
  rw [List.length_drop] at hi
  rw [List.getElem_drop, h.below lo _ (by omega)]
  show ¬ (below Upd.key A lo + i < below Upd.key A lo)
  omega
theorem cut_one (A : List Upd) (lo : List UInt8) (hlo : lo ≠ []) : cutIn A [] lo = A.take (below Upd.key A lo) ∧ cutOut A [] lo = A.drop (below Upd.key A lo) := by
  have e : cutEnd A [] lo = below Upd.key A lo := by unfold cutEnd; rw [below_nil, if_neg hlo]; omega
  unfold cutIn cutOut
  rw [e, below_nil]
  simp
theorem cut_rest {A : List Upd} (h : Rising Upd.key A) (lo hi : List UInt8) : ∃ j, cutIn (A.drop (below Upd.key A lo)) lo hi = (A.drop (below Upd.key A lo)).take j ∧ cutOut (A.drop (below Upd.key A lo)) lo hi = (A.drop (below Upd.key A lo)).drop j := by
  refine ⟨cutEnd (A.drop (below Upd.key A lo)) lo hi, ?_, ?_⟩
  · unfold cutIn; rw [below_rest h lo]; simp
  · unfold cutOut; rw [below_rest h lo]; simp

/-- The first cut: those below a key, and the rest. -/
theorem cut_first (a : Option Addr) (n c : Nat) (A : List Upd) (lo : List UInt8) (w : World) (hn : n = A.length) (h : BoxU w (.agg #[.slice a n c]) A) (hl : A.length ≤ 1000) (hr : Rising Upd.key A) (hlo : lo ≠ []) :
    Calls Try.prog 15 #[.agg #[.slice a n c], .string ⟨#[]⟩, .string (S lo)] w fun e w' => (∃ (a1 a2 : Option Addr) (c1 c2 : Nat) (P1 P2 : List Upd), e = .returned (.tuple #[.agg #[.slice a1 P1.length c1], .agg #[.slice a2 P2.length c2]]) ∧ A = P1 ++ P2 ∧ P2 = A.drop (below Upd.key A lo) ∧ BoxU w' (.agg #[.slice a1 P1.length c1]) P1 ∧ BoxU w' (.agg #[.slice a2 P2.length c2]) P2) ∧ Below w.heap.size w w' := by
  subst hn
  refine (cut_any _ A [] lo w h (by omega) hr).mono ?_
  rintro e w' ⟨⟨v1, v2, he, h1, h2⟩, hb⟩
  obtain ⟨e1, e2⟩ := cut_one A lo hlo
  rw [e1] at h1
  rw [e2] at h2
  obtain ⟨a1, c1, rfl, h1⟩ := h1.open
  obtain ⟨a2, c2, rfl, h2⟩ := h2.open
  exact ⟨⟨a1, a2, c1, c2, _, _, he, (List.take_append_drop _ _).symm, rfl, h1, h2⟩, hb⟩
/-- The second: those below another one, and the rest. -/
theorem cut_second (a : Option Addr) (n c : Nat) (A P : List Upd) (lo hi : List UInt8) (w : World) (hP : P = A.drop (below Upd.key A lo)) (hn : n = P.length) (h : BoxU w (.agg #[.slice a n c]) P) (hl : A.length ≤ 1000) (hr : Rising Upd.key A) :
    Calls Try.prog 15 #[.agg #[.slice a n c], .string (S lo), .string (S hi)] w fun e w' => (∃ (a1 a2 : Option Addr) (c1 c2 : Nat) (P1 P2 : List Upd), e = .returned (.tuple #[.agg #[.slice a1 P1.length c1], .agg #[.slice a2 P2.length c2]]) ∧ P = P1 ++ P2 ∧ BoxU w' (.agg #[.slice a1 P1.length c1]) P1 ∧ BoxU w' (.agg #[.slice a2 P2.length c2]) P2) ∧ Below w.heap.size w w' := by
  subst hn
  have hPl : P.length ≤ A.length := by rw [hP, List.length_drop]; omega
  refine (cut_any _ P lo hi w h (by omega) (by rw [hP]; exact hr.drop _)).mono ?_
  rintro e w' ⟨⟨v1, v2, he, h1, h2⟩, hb⟩
  obtain ⟨j, e1, e2⟩ := cut_rest hr lo hi
  rw [hP, e1, ← hP] at h1
  rw [hP, e2, ← hP] at h2
  obtain ⟨a1, c1, rfl, h1⟩ := h1.open
  obtain ⟨a2, c2, rfl, h2⟩ := h2.open
  exact ⟨⟨a1, a2, c1, c2, _, _, he, (List.take_append_drop _ _).symm, h1, h2⟩, hb⟩

/-- 'append(s, x...)' of a row of the call's own, the source nil or not, as one step of a region that draws. -/
theorem step_append_src {P : Program} {ops : Array Oper} {o : Oper} {a : Act} {w : World} {K : Act → World → Prop} {Q : Exit → Act → World → Prop} {E0 : Prop} (hgd : o.guard = none) (s x : Operand) (t : TypeId)
    (ho : o.op = Op.call { callee := Callee.builtin Builtin.append, args := #[s, x], argTypes := #[t, t] })
    (base : Nat) (e : TypeId) (i : TypeInfo) (z : Value) (size bytes : Nat) (ht : P.underlying t = some (.slice e)) (hi : P.info? e = some i) (hz : i.zero = some z)
    (hsize : i.size = size) (hby : i.bytes = bytes) (hzs : z.cells.size = size) (hsz : 0 < size)
    (v : Value) (n : Nat) (xs : List Value) (hs : a.eval s = v) (hown : w.ownsRow base e size v n xs)
    (ao : Option Addr) (m c : Nat) (news : List Value) (hx : a.eval x = .slice ao m c) (hl : news.length = m * size) (hnone : ao = none → m = 0 ∧ c = 0) (hnews : ∀ ad, ao = some ad → ∀ j u, news[j]? = some u → w.cell? (ad.add j) = some u) (h1 : ∀ u ∈ news, u.oneCell' = true)
    (h63 : n + m ≤ maxLen) (hbytes : (n + m) * bytes ≤ 140737488355328) (hbase : base ≤ w.heap.size)
    (h : ∀ v' w', w'.ownsRow base e size v' (n + m) (xs ++ news) → w.grownBy w' v.ownBlock → (v'.ownBlock = v.ownBlock ∨ v'.ownBlock = some w.heap.size) → K (a.put o.dst v') w') :
    if Region.wanted o (yielded ops a.tmps) = true then Oper.wp P o a w K Q else E0 := by
  cases ao with
  | some ad => exact step_append_own hgd s x t ho base e i z size bytes ht hi hz hsize hby hzs hsz v n xs hs hown ad m c news hx hl (hnews ad rfl) h1 h63 hbytes hbase h
  | none =>
    obtain ⟨rfl, rfl⟩ := hnone rfl
    obtain rfl : news = [] := List.eq_nil_of_length_eq_zero (by omega)
    have hw : Region.wanted o (yielded ops a.tmps) = true := by simp [Region.wanted, hgd]
    rw [if_pos hw]
    have hrun := run_append_owned_none (P := P) (w := w) base t o.type e i size ht hi v n xs hown
    have hK := h v w (by simpa using hown) ⟨rfl, rfl, rfl, Nat.le_refl _, fun _ _ _ => rfl⟩ (Or.inl rfl)
    unfold Oper.wp
    simp [execOp, ho, resolve, invoke, builtin, hs, hx, hrun, Result.andThen]
    exact hK
/-- The cells of a list of updates that lies anywhere, as the source of an append. -/
theorem src_of {w : World} {a : Option Addr} {n c : Nat} {l : List Upd} (h : SlU w (.slice a n c) l) : n = l.length ∧ (a = none → n = 0 ∧ c = 0) ∧ ∀ ad, a = some ad → ∀ j u, (cellsU l)[j]? = some u → w.cell? (ad.add j) = some u := by
  obtain ⟨ao, c', e, hs, h1, -, h3⟩ := h
  simp only [Value.slice.injEq] at e
  obtain ⟨rfl, rfl, rfl⟩ := e
  exact ⟨rfl, fun e => by have := h3 e; omega, src_cells hs⟩

/-- What region 34 keeps: the three boxes, and what lies below. -/
structure JoinAt (w w11 : World) (w' : World) : Prop where
  low : Below w.heap.size w w'
  mid : Below w11.heap.size w11 w'
theorem JoinAt.on {w w11 w' w'' : World} (h : JoinAt w w11 w') (hw : w.heap.size ≤ w11.heap.size) (hb : Below w'.heap.size w' w'') : JoinAt w w11 w'' :=
  ⟨h.low.trans (hb.mono (Nat.le_trans hw h.mid.size)), h.mid.trans (hb.mono h.mid.size)⟩
theorem JoinAt.grown {w w11 w' w'' : World} (h : JoinAt w w11 w') (hw : w.heap.size ≤ w11.heap.size) {r : Option Nat} (hg : w'.grownBy w'' r) (hr : ∀ k, r = some k → w11.heap.size ≤ k) : JoinAt w w11 w'' :=
  ⟨below_grown h.low hg (fun k e => Nat.le_trans hw (hr k e)) (Nat.le_trans hw h.mid.size), below_grown h.mid hg hr h.mid.size⟩

theorem join_cell {w6 w7 : World} {B p : Nat} {E : TypeId} {k n : Nat} {v x : Value} {xs : List Value} (ow : w6.ownsRow B E k v n xs) (hg : w6.grownBy w7 v.ownBlock) (hp : p < B) (h : w6.cell? ⟨p, 0, none⟩ = some x) : w7.cell? ⟨p, 0, none⟩ = some x :=
  (hg.cell_far ⟨p, 0, none⟩ (World.block_lt_of_cell? w6 _ h) (fun e => by have := (ow.lt p e.symm).1; omega)).trans h
theorem join_base {w : World} {p : Nat} {x : Value} (h : w.cell? ⟨p + 1, 0, none⟩ = some x) : p + 2 ≤ w.heap.size := World.block_lt_of_cell? w _ h
theorem own_apart {wc w6 : World} {B : Nat} {E : TypeId} {k n n' : Nat} {v v' : Value} {xs xs' : List Value} (h1 : wc.ownsRow B E k v n xs) (h3 : w6.ownsRow wc.heap.size E k v' n' xs') : v'.ownBlock = none ∨ v'.ownBlock ≠ v.ownBlock := by
  cases hv : v'.ownBlock with
  | none => exact Or.inl rfl
  | some g =>
    refine Or.inr fun e => ?_
    have a := (h3.lt g hv).1
    have b := (h1.lt g e.symm).2
    omega
theorem join_low {w6 : World} {B B' : Nat} {E : TypeId} {k n : Nat} {v : Value} {xs : List Value} (ow : w6.ownsRow B E k v n xs) (hB : B' ≤ B) : ∀ g, v.ownBlock = some g → B' ≤ g := fun g e => Nat.le_trans hB (ow.lt g e).1

end Go.Proofs.Ytcjeonamebnpfaa
