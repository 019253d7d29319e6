/-
  Two cursors on one shelf: what SeekRest asks of them, in plain Lean, and as memory.
-/
import Derived.Test.YthcjcmalfnfjkaaSkx
namespace Go.Proofs.Ythcjcmalfnfjkaa
open Go.RowKit
set_option linter.unusedVariables false

/-- 'append(s, x...)' of a row of the call's own, the source nil or not. -/
theorem wpList_append_src {P : Program} (w : World) {ops : Array Oper} {rest : List Oper} {o : Oper} {a : Act} {Q : Exit → Act → World → Prop} (hgd : o.guard = none) (s x : Operand) (t : TypeId)
    (ho : o.op = .call { callee := .builtin .append, args := #[s, x], argTypes := #[t, t] })
    (base : Nat) (e : TypeId) (i : TypeInfo) (z : Value) (size bytes : Nat) (ht : P.underlying t = some (.slice e)) (hi : P.info? e = some i) (hz : i.zero = some z)
    (hsize : i.size = size) (hby : i.bytes = bytes) (hzs : z.cells.size = size) (hsz : 0 < size)
    (v : Value) (n : Nat) (xs : List Value) (hs : a.eval s = v) (hown : w.ownsRow base e size v n xs)
    (ao : Option Addr) (m c : Nat) (news : List Value) (hx : a.eval x = .slice ao m c) (hl : news.length = m * size) (hnone : ao = none → m = 0 ∧ c = 0) (hnews : ∀ ad, ao = some ad → ∀ j u, news[j]? = some u → w.cell? (ad.add j) = some u) (h1 : ∀ u ∈ news, u.oneCell' = true)
    (h63 : n + m ≤ maxLen) (hbytes : (n + m) * bytes ≤ 140737488355328) (hbase : base ≤ w.heap.size)
    (h : ∀ v' w', w'.ownsRow base e size v' (n + m) (xs ++ news) → w.grownBy w' v.ownBlock → (v'.ownBlock = v.ownBlock ∨ v'.ownBlock = some w.heap.size) → wpList P ops Q rest (a.put o.dst v') w') :
    wpList P ops Q (o :: rest) a w := by
  cases ao with
  | none =>
    obtain ⟨rfl, rfl⟩ := hnone rfl
    obtain rfl : news = [] := List.eq_nil_of_length_eq_zero (by omega)
    refine wpList_append_own_none hgd s x t ho base e i size ht hi v n xs hs hown hx (h v w ?_ ⟨rfl, rfl, rfl, Nat.le_refl _, fun _ _ _ => rfl⟩ (Or.inl rfl))
    simpa using hown
  | some ad => exact wpList_append_own_at w hgd s x t ho base e i z size bytes ht hi hz hsize hby hzs hsz v n xs hs hown ad m c news hx hl (hnews ad rfl) h1 h63 hbytes hbase (fun v' w' a b _ d => h v' w' a b d)

/-- 'append(s, x...)' of a row of the call's own, the source nil or not; the length and the cells by name. -/
theorem wpList_append_srcK {P : Program} (w : World) {ops : Array Oper} {rest : List Oper} {o : Oper} {a : Act} {Q : Exit → Act → World → Prop} (hgd : o.guard = none) (s x : Operand) (t : TypeId)
    (ho : o.op = .call { callee := .builtin .append, args := #[s, x], argTypes := #[t, t] })
    (base : Nat) (e : TypeId) (i : TypeInfo) (z : Value) (size bytes : Nat) (ht : P.underlying t = some (.slice e)) (hi : P.info? e = some i) (hz : i.zero = some z)
    (hsize : i.size = size) (hby : i.bytes = bytes) (hzs : z.cells.size = size) (hsz : 0 < size)
    (v : Value) (n : Nat) (xs : List Value) (hs : a.eval s = v) (hown : w.ownsRow base e size v n xs)
    (ao : Option Addr) (m c : Nat) (news : List Value) (hx : a.eval x = .slice ao m c) (hl : news.length = m * size) (hnone : ao = none → m = 0 ∧ c = 0) (hnews : ∀ ad, ao = some ad → ∀ j u, news[j]? = some u → w.cell? (ad.add j) = some u) (h1 : ∀ u ∈ news, u.oneCell' = true)
    (h63 : n + m ≤ maxLen) (hbytes : (n + m) * bytes ≤ 140737488355328) (hbase : base ≤ w.heap.size)
    (K : Nat) (Zs : List Value) (hK : n + m = K) (hZ : xs ++ news = Zs)
    (h : ∀ v' w', w'.ownsRow base e size v' K Zs → w.grownBy w' v.ownBlock → (v'.ownBlock = v.ownBlock ∨ v'.ownBlock = some w.heap.size) → wpList P ops Q rest (a.put o.dst v') w') :
    wpList P ops Q (o :: rest) a w := by
  subst hK
  subst hZ
  exact wpList_append_src w hgd s x t ho base e i z size bytes ht hi hz hsize hby hzs hsz v n xs hs hown ao m c news hx hl hnone hnews h1 h63 hbytes hbase h
theorem own_src {w : World} {B n k : Nat} {E : TypeId} {m : Nat} {a : Option Addr} {c : Nat} {xs : List Value} (h : w.ownsRow B E k (.slice a m c) n xs) : (a = none → m = 0 ∧ c = 0) ∧ ∀ ad, a = some ad → ∀ j u, xs[j]? = some u → w.cell? (ad.add j) = some u := by
  have hc := fun g hg => World.ownsRow.cells h (g := g) hg
  rcases ownsRow_open h with ⟨e, -, -⟩ | ⟨g, cap, cur, e, -, -, -⟩
  · injection e with e1 e2 e3
    subst e1; subst e2; subst e3
    exact ⟨fun _ => ⟨rfl, rfl⟩, fun ad e => by simp at e⟩
  · injection e with e1 e2 e3
    subst e1
    refine ⟨fun e => by simp at e, fun ad e => ?_⟩
    injection e with e
    subst e
    exact hc g rfl
theorem CuAt.lift {w w' : World} {B0 B1 B1' p q : Nat} {C : CurS} (h : CuAt w B0 B1 p q C) (hl : C.left = []) (hB : B1 ≤ B1') (hb : w'.heap[p]? = w.heap[p]?) : CuAt w' B0 B1' p q C := by
  have hc : ∀ o v, w.cell? ⟨p, o, none⟩ = some v → w'.cell? ⟨p, o, none⟩ = some v := fun o v e => (World.cell?_of_block hb).trans e
  have hf : ∀ o, w'.frozen? ⟨p, o, none⟩ = w.frozen? ⟨p, o, none⟩ := fun o => World.frozen?_of_block hb
  obtain ⟨v4, h4, hv⟩ := h.c4
  obtain ⟨ao, c, e1, e2, e3, -⟩ := hv.form
  have hlt := h.lt
  exact ⟨hc _ _ h.c0, hc _ _ h.c1, hc _ _ h.c2, hc _ _ h.c3, ⟨v4, hc _ _ h4, ⟨⟨ao, c, e1, e2, e3, Or.inl hl⟩⟩⟩, hc _ _ h.c5, (hf _).trans h.f1, (hf _).trans h.f4, (hf _).trans h.f5, by omega, h.ne, h.ge⟩
theorem NotAt.nil {w : World} {B0 B1 p q : Nat} {C : CurS} (h : CuAt w B0 B1 p q C) (hl : C.left = []) (k : Nat) : NotAt w p k := fun a n c hc hn => by
  obtain ⟨v4, h4, hv⟩ := h.c4
  obtain ⟨ao, c', e1, -⟩ := hv.form
  rw [hc] at h4
  injection h4 with h4
  rw [e1, hl] at h4
  injection h4 with _ h5 _
  simp at h5
  omega
theorem rem_fresh (L : List Ent) (n : Nat) : remL L ⟨[], [], n, [], false⟩ = L := by
  unfold remL
  refine List.filter_eq_self.2 fun x _ => ?_
  unfold withinE
  simp only [List.isEmpty_nil, Bool.true_or, Bool.and_true, Bool.not_eq_true']
  cases x.key <;> rfl
theorem rest_asks {L : List Ent} {fail : Int} (hf : fail ≤ 0) : ∀ (n : Nat) (A : List Int) (C : CurS) (o : List Ent), CurOk L C → (restS L fail n A C o).2.2.1.length ≤ A.length + (remL L C).length + 1
  | 0, A, C, o, h => by simp [restS]; omega
  | n + 1, A, C, o, h => by
    obtain ⟨h1, h2, h3, h4⟩ := next_spec (fail := fail) (A := A) h
    have ha := nextS_asks L fail A C
    have hb := fillS_asks L fail A C
    rw [← ha] at hb
    clear ha
    generalize hR : nextS L fail A C = R at *
    obtain ⟨x, e, A', C'⟩ := R
    dsimp only at *
    rcases h4 with ⟨rfl, h5, h6⟩ | ⟨-, -, -, h7⟩
    · cases hr : remL L C with
      | nil =>
        rw [hr] at h5 h6
        simp at h5
        subst h5
        rw [restS_end hR]
        dsimp only
        simp
        omega
      | cons y t =>
        rw [hr] at h5 h6
        simp at h5
        subst h5
        rw [restS_go hR]
        have g := rest_asks hf n A' C' (o ++ [y]) h1
        rw [h6] at g
        simp at g ⊢
        omega
    · omega
/-- Rest over a source that doesn't fail. -/
theorem rest_eq {L : List Ent} {n : Nat} {A : List Int} {C : CurS} (h : CurOk L C) : ∃ A' C', restS L 0 n A C [] = ((remL L C).take n, 0, A', C') ∧ CurOk L C' ∧ remL L C' = (remL L C).drop n ∧ A'.length ≤ A.length + (remL L C).length + 1 := by
  obtain ⟨g1, g2, g3, g4, -, -⟩ := rest_spec (Int.le_refl 0) n A C [] h
  have g5 := rest_asks (Int.le_refl 0) n A C [] h
  generalize restS L 0 n A C [] = R at *
  obtain ⟨x, e, A', C'⟩ := R
  dsimp only at *
  subst g2
  exact ⟨A', C', by rw [g1, List.nil_append], g3, g4, g5⟩
theorem next_eq {L : List Ent} {j : Nat} {A : List Int} {C : CurS} (h : CurOk L C) (hr : remL L C = L.drop j) (hj : j < L.length) : ∃ A' C', nextS L 0 A C = (some L[j], 0, A', C') ∧ CurOk L C' ∧ remL L C' = L.drop (j + 1) ∧ A'.length ≤ A.length + 1 := by
  obtain ⟨h1, h2, h3, h4⟩ := next_spec (fail := 0) (A := A) h
  have ha := nextS_asks L 0 A C
  have hb := fillS_asks L 0 A C
  rw [← ha] at hb
  clear ha
  generalize nextS L 0 A C = R at *
  obtain ⟨x, e, A', C'⟩ := R
  dsimp only at *
  rcases h4 with ⟨rfl, h5, h6⟩ | ⟨-, -, -, h7⟩
  · rw [hr, List.drop_eq_getElem_cons hj] at h5 h6
    simp at h5 h6
    subst h5
    exact ⟨A', C', by rw [List.getElem?_eq_getElem hj], h1, h6, hb⟩
  · omega

end Go.Proofs.Ythcjcmalfnfjkaa
