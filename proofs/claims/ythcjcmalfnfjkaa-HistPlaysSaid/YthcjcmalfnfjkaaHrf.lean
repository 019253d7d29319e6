/-
  A row of the document's updates that is the call's own, or is cut to its length.
-/
import Derived.Test.YthcjcmalfnfjkaaHis
namespace Go.Proofs.Ythcjcmalfnfjkaa
open Go.RowKit Go.Maps Go.WideShapes Go.Shelf
set_option linter.unusedVariables false

/-- The call's own, or a slice whose room is its length. -/
def RefRow (w : World) (v : Value) (n : Nat) (xs : List Value) : Prop :=
  w.ownsRow 0 37 4 v n xs ∨ ∃ g, v = .slice (some ⟨g, 0, none⟩) n n ∧ g < w.heap.size ∧ n ≤ maxLen ∧ xs.length = n * 4 ∧ ∀ j x, xs[j]? = some x → w.cell? ⟨g, j, none⟩ = some x
theorem RefRow.len {w : World} {v : Value} {n : Nat} {xs : List Value} (h : RefRow w v n xs) : xs.length = n * 4 := by
  rcases h with h | ⟨g, _, _, _, h, _⟩
  · exact h.1
  · exact h
theorem RefRow.form {w : World} {v : Value} {n : Nat} {xs : List Value} (h : RefRow w v n xs) : ∃ a c, v = .slice a n c := by
  rcases h with h | ⟨g, rfl, _⟩
  · exact own_form h
  · exact ⟨_, _, rfl⟩
theorem RefRow.lt {w : World} {v : Value} {n : Nat} {xs : List Value} (h : RefRow w v n xs) (k : Nat) (e : v.ownBlock = some k) : k < w.heap.size := by
  rcases h with h | ⟨g, rfl, h1, _⟩
  · exact (h.lt k e).2
  · simp only [Value.ownBlock, Option.some.injEq] at e; omega
theorem RefRow.off {S : Nat → Prop} {w w' : World} {v : Value} {n : Nat} {xs : List Value} (h : RefRow w v n xs) (ho : Off S w w') (hs : ∀ k, v.ownBlock = some k → ¬ S k) : RefRow w' v n xs := by
  rcases h with h | ⟨g, rfl, h1, h2, h3, h4⟩
  · left
    obtain ⟨e1, e2⟩ := h
    refine ⟨e1, ?_⟩
    rcases e2 with e2 | ⟨g, cap, cur, hv, h3, h4, h5⟩
    · exact Or.inl e2
    · have hg : g < w.heap.size := (World.ownsRow.lt ⟨e1, Or.inr ⟨g, cap, cur, hv, h3, h4, h5⟩⟩ g (by rw [hv]; rfl)).2
      exact Or.inr ⟨g, cap, cur, hv, h3, (ho.block g hg (hs g (by rw [hv]; rfl))).trans h4, h5⟩
  · exact Or.inr ⟨g, rfl, Nat.lt_of_lt_of_le h1 ho.size, h2, h3, fun j x hx => (World.cell?_of_block (w := w) (ho.block g h1 (hs g rfl))).trans (h4 j x hx)⟩
theorem RefRow.below {w w' : World} {v : Value} {n : Nat} {xs : List Value} (h : RefRow w v n xs) (hb : Below w.heap.size w w') : RefRow w' v n xs := h.off (S := fun _ => False) (Off.of_below hb) (fun k _ e => e)
theorem cellsU_sl {w : World} {a : Option Addr} {c : Nat} {us : List Upd} (h : RefRow w (.slice a us.length c) us.length (cellsU us)) : SlAt Upd.cells 4 w a us := by
  by_cases h0 : us = []
  · exact Or.inl h0
  · have hp : 0 < us.length := List.length_pos_iff.2 h0
    right
    rcases h with h | ⟨g, e, h1, h2, h3, h4⟩
    · obtain ⟨g, hg, h1, h2, h3⟩ := own_at h hp
      exact ⟨g, 0, hg, h2, fun i hi j x hx => by rw [Nat.zero_add]; exact h3 _ _ (cellsU_get us i hi j x hx)⟩
    · simp only [Value.slice.injEq, true_and] at e
      exact ⟨g, 0, e.1, h1, fun i hi j x hx => by rw [Nat.zero_add]; exact h4 _ _ (cellsU_get us i hi j x hx)⟩
theorem RefRow.cap {w : World} {a : Option Addr} {n c : Nat} {xs : List Value} (h : RefRow w (.slice a n c) n xs) : n ≤ c ∧ c ≤ maxLen := by
  rcases h with h | ⟨g, e, h1, h2, h3, h4⟩
  · rcases ownsRow_open h with ⟨e, h0, -⟩ | ⟨g, cap, cur, e, hB, hr, h3, h4, h5, h6⟩
    · simp only [Value.slice.injEq] at e
      obtain ⟨rfl, rfl, rfl⟩ := e
      exact ⟨Nat.le_refl _, by unfold maxLen; omega⟩
    · simp only [Value.slice.injEq, true_and] at e
      obtain ⟨rfl, rfl⟩ := e
      exact ⟨h3, h4⟩
  · simp only [Value.slice.injEq, true_and] at e
    obtain ⟨rfl, rfl⟩ := e
    exact ⟨Nat.le_refl _, h2⟩
theorem RefRow.cut {w : World} {a : Option Addr} {n c : Nat} {us : List Upd} (h : RefRow w (.slice a n c) n (cellsU us)) (hn : us.length = n) (m : Nat) (hm : m ≤ n) : RefRow w (.slice a m m) m (cellsU (us.take m)) ∧ ∀ k, (Value.slice a m m).ownBlock = some k → (Value.slice a n c).ownBlock = some k := by
  have hl : (cellsU (us.take m)).length = m * 4 := by rw [cellsU_len, List.length_take]; congr 1; omega
  rcases h with h | ⟨g, e, h1, h2, h3, h4⟩
  · rcases ownsRow_open h with ⟨e, h0, -⟩ | ⟨g, cap, cur, e, hB, hr, h3, h4, h5, h6⟩
    · simp only [Value.slice.injEq] at e
      obtain ⟨rfl, rfl, rfl⟩ := e
      obtain rfl : m = 0 := by omega
      exact ⟨Or.inl (by simpa [cellsU] using World.ownsRow_nil w 0 37 4), fun k e => by simp [Value.ownBlock] at e⟩
    · simp only [Value.slice.injEq, true_and] at e
      obtain ⟨rfl, rfl⟩ := e
      refine ⟨Or.inr ⟨g, rfl, hr.lt, by omega, hl, fun j x hx => ?_⟩, fun k e => e⟩
      rw [← cellsU_take] at hx
      rw [List.getElem?_take] at hx
      split at hx
      · rw [← h6, List.getElem?_take] at hx
        split at hx
        · rw [hr.cell]; exact hx
        · cases hx
      · cases hx
  · simp only [Value.slice.injEq, true_and] at e
    obtain ⟨rfl, rfl⟩ := e
    refine ⟨Or.inr ⟨g, rfl, h1, by omega, hl, fun j x hx => ?_⟩, fun k e => e⟩
    rw [← cellsU_take, List.getElem?_take] at hx
    split at hx
    · exact h4 j x hx
    · cases hx
theorem infoV : (Try.prog.info? 37).map (fun i => (i.zero, i.size, i.bytes)) = some (some (.agg #[.int .u8 0, .string ByteArray.empty, .string ByteArray.empty, .int .u64 0]), 4, 48) := by kernel_rfl
/-- append of one onto it. -/
theorem wpList_append_ref {w : World} {ops : Array Oper} {rest : List Oper} {o : Oper} {a : Act} {Q : Exit → Act → World → Prop} (hgd : o.guard = none) (s x : Operand)
    (ho : o.op = .call { callee := .builtin .append, args := #[s, x], argTypes := #[25, 25] })
    (v : Value) (n : Nat) (xs : List Value) (hs : a.eval s = v) (hown : RefRow w v n xs) (ad : Addr) (news : List Value) (hx : a.eval x = .slice (some ad) 1 1) (hl : news.length = 1 * 4) (hnews : ∀ j u, news[j]? = some u → w.cell? (ad.add j) = some u) (h1 : ∀ u ∈ news, u.oneCell' = true) (hn : n ≤ 1000)
    (h : ∀ v' w', w'.ownsRow 0 37 4 v' (n + 1) (xs ++ news) → w.grownBy w' v.ownBlock → (∀ k, v'.ownBlock = some k → v.ownBlock = some k ∨ w.heap.size ≤ k) → wpList Try.prog ops Q rest (a.put o.dst v') w') : wpList Try.prog ops Q (o :: rest) a w := by
  obtain ⟨i0, hi0, iz0, iz1, iz2⟩ := info_parts infoV
  rcases hown with hown | ⟨g, rfl, hg, h2, h3, h4⟩
  · exact wpList_append_own_at w hgd s x 25 ho 0 37 i0 _ 4 48 Try.underlying25 hi0 iz0 iz1 iz2 rfl (by decide) v n xs hs hown ad 1 1 news hx hl hnews h1 (by unfold maxLen; omega) (by omega) (Nat.zero_le _) (fun v' w' e1 e2 _ e4 => h v' w' e1 e2 (fun k hk => by rcases e4 with e4 | e4; exact Or.inl (by rw [← e4]; exact hk); rw [hk] at e4; injection e4 with e4; exact Or.inr (by omega)))
  · refine wpList_plain hgd fun K hK => ?_
    obtain ⟨v', w', hrun, r1, r2⟩ := run_append_arg_grows (P := Try.prog) w 25 o.type 37 i0 _ 4 48 Try.underlying25 hi0 iz0 iz1 iz2 rfl (by decide) ⟨g, 0, none⟩ n n xs h3 (fun j u hj => by rw [Addr.add_lit, Nat.zero_add]; exact h4 j u hj) ad 1 1 news hl hnews (by omega) (by unfold maxLen; omega) (by omega)
    unfold Oper.wp
    simp [execOp, ho, resolve, invoke, builtin, hs, hx, hrun, Result.andThen]
    exact hK _ _ (h v' w' (own_base r1 (Nat.zero_le _)) ⟨r2.os, r2.tape, r2.output, r2.size, fun i hi _ => r2.block i hi (by simp)⟩ (fun k hk => Or.inr (r1.lt k hk).1))
theorem underV : Try.prog.underlying 25 = some (.slice (Try.prog.elem 25)) := by rw [show Try.prog.elem 25 = 37 by kernel_rfl]; exact Try.underlying25
theorem sizeElemV (w : World) : (sizeOf (Try.prog.elem 25)).run Try.prog w = .ok 4 w := by kernel_rfl
theorem cut_V (ao : Option Addr) (n c i : Nat) (hin : i ≤ n) (hnc : n ≤ c) (w : World) : (Instr.slice 25 (.slice ao n c) none (some (.int .i64 (i : Int))) none).run Try.prog w = .ok (.slice ao i c) w := by
  rw [run_slice_h w 25 ao n c underV .i64 i (by omega) (by omega)]
  rw [sizeElemV]
  have e : ao.map (·.add 0) = ao := by cases ao <;> simp [Addr.add]
  simp [Result.andThen, sliced, e]
theorem cut_V3 (ao : Option Addr) (n c i : Nat) (hin : i ≤ n) (hnc : n ≤ c) (w : World) : (Instr.slice 25 (.slice ao n c) none (some (.int .i64 (i : Int))) (some (.int .i64 (i : Int)))).run Try.prog w = .ok (.slice ao i i) w := by
  rw [run_slice_hm w 25 ao n c underV .i64 .i64 i i (by omega) (by omega) (by omega)]
  rw [sizeElemV]
  have e : ao.map (·.add 0) = ao := by cases ao <;> simp [Addr.add]
  simp [Result.andThen, sliced, e]
/-- A history and the row of what was accepted, apart. -/
structure Duo (w : World) (B h : Nat) (allH : List Upd) (last : Nat) (a : Option Addr) (n c : Nat) (allR : List Upd) : Prop where
  ex : ∃ S ah ch p b, HisAt w S h ah ch p b allH last ∧ (∀ i, S i → B ≤ i) ∧ ∀ k, (Value.slice a n c).ownBlock = some k → ¬ S k ∧ B ≤ k
  row : RefRow w (.slice a n c) n (cellsU allR)
  len : allR.length = n
theorem Duo.below {w w' : World} {B h : Nat} {allH : List Upd} {last : Nat} {a : Option Addr} {n c : Nat} {allR : List Upd} (H : Duo w B h allH last a n c allR) (hb : Below w.heap.size w w') : Duo w' B h allH last a n c allR :=
  ⟨let ⟨S, ah, ch, p, b, h1, h2, h3⟩ := H.ex; ⟨S, ah, ch, p, b, h1.below hb, h2, h3⟩, H.row.below hb, H.len⟩
theorem Duo.his {w : World} {B h : Nat} {allH : List Upd} {last : Nat} {a : Option Addr} {n c : Nat} {allR : List Upd} (H : Duo w B h allH last a n c allR) : ∃ S ah ch p b, HisAt w S h ah ch p b allH last :=
  let ⟨S, ah, ch, p, b, h1, h2, h3⟩ := H.ex; ⟨S, ah, ch, p, b, h1⟩
theorem Duo.sl {w : World} {B h : Nat} {allH : List Upd} {last : Nat} {a : Option Addr} {n c : Nat} {allR : List Upd} (H : Duo w B h allH last a n c allR) : SlAt Upd.cells 4 w a allR := by
  have := H.row
  have hl := H.len
  subst hl
  exact cellsU_sl this
theorem Duo.wf {w : World} {B h : Nat} {allH : List Upd} {last : Nat} {a : Option Addr} {n c : Nat} {allR : List Upd} (H : Duo w B h allH last a n c allR) : (∀ u ∈ allH, u.Wf ∧ u.check = 0) ∧ last ≤ allH.length ∧ allH.length ≤ 1000 :=
  let ⟨S, ah, ch, p, b, h1⟩ := H.his; ⟨h1.wf, h1.le, h1.len⟩
/-- A call on the history alone. -/
theorem Duo.turn {w w' : World} {B h : Nat} {allH allH' : List Upd} {last last' : Nat} {a : Option Addr} {n c : Nat} {allR : List Upd} (H : Duo w B h allH last a n c allR) {S : Nat → Prop} (hS : (∀ i, S i → i < w.heap.size) ∧ (∀ i, S i → B ≤ i) ∧ ∀ k, (Value.slice a n c).ownBlock = some k → ¬ S k ∧ B ≤ k) (hB : B ≤ w.heap.size) (ho : Off S w w')
    {p' b' : Nat} (hn : ∃ S' a' c', HisAt w' S' h a' c' p' b' allH' last' ∧ ∀ i, S' i → S i ∨ w.heap.size ≤ i) : Duo w' B h allH' last' a n c allR := by
  obtain ⟨S', a', c', h1, h2⟩ := hn
  refine ⟨⟨S', a', c', p', b', h1, fun i hi => ?_, fun k hk => ⟨fun hs => ?_, (hS.2.2 k hk).2⟩⟩, H.row.off ho (fun k hk => (hS.2.2 k hk).1), H.len⟩
  · rcases h2 i hi with h3 | h3
    · exact hS.2.1 i h3
    · omega
  · rcases h2 k hs with h3 | h3
    · exact (hS.2.2 k hk).1 h3
    · have := H.row.lt k hk; omega
/-- Something is appended to the row. -/
theorem Duo.put {w w' : World} {B h : Nat} {allH : List Upd} {last : Nat} {a : Option Addr} {n c : Nat} {allR : List Upd} (H : Duo w B h allH last a n c allR) {a' : Option Addr} {c' : Nat} (u : Upd) (hB : B ≤ w.heap.size) (hr : w'.ownsRow 0 37 4 (.slice a' (n + 1) c') (n + 1) (cellsU (allR ++ [u]))) (hg : w.grownBy w' (Value.slice a n c).ownBlock) (hk : ∀ k, (Value.slice a' (n + 1) c').ownBlock = some k → (Value.slice a n c).ownBlock = some k ∨ w.heap.size ≤ k) : Duo w' B h allH last a' (n + 1) c' (allR ++ [u]) := by
  obtain ⟨S, ah, ch, p, b, h1, h2, h3⟩ := H.ex
  have ho : Off (fun i => (Value.slice a n c).ownBlock = some i) w w' := Off.of_grown hg (fun i e => e)
  refine ⟨⟨S, ah, ch, p, b, h1.off_kept ho (fun i hi e => (h3 i e).1 hi), h2, fun k e => ?_⟩, Or.inl hr, by rw [List.length_append, H.len]; rfl⟩
  rcases hk k e with h4 | h4
  · exact h3 k h4
  · exact ⟨fun hs => by have := h1.lt k hs; omega, by omega⟩
theorem Duo.low {w w' w0 : World} {B h : Nat} {allH : List Upd} {last : Nat} {a : Option Addr} {n c : Nat} {allR : List Upd} (H : Duo w B h allH last a n c allR) (hb : Below B w0 w) (hB : B ≤ w.heap.size) (hg : w.grownBy w' (Value.slice a n c).ownBlock) : Below B w0 w' := by
  obtain ⟨S, ah, ch, p, b, h1, h2, h3⟩ := H.ex
  exact below_grown hb hg (fun k e => (h3 k e).2) hB

end Go.Proofs.Ythcjcmalfnfjkaa
