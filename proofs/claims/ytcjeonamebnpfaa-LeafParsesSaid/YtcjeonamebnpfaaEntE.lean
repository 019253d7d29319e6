/-
  Entries and leaves in boxes; entries held against each other.
-/
import Derived.Test.YtcjeonamebnpfaaLeafA
namespace Go.Proofs.Ytcjeonamebnpfaa
open Go.RowKit

theorem SlAt.storeE {w : World} {ao : Option Addr} {l : List Ent} (h : SlAt Ent.cells 2 w ao l) {p : Nat} {a : Option Addr} {n c : Nat} (hp : w.cell? ⟨p, 0, none⟩ = some (.slice a n c)) (u : Value) : SlAt Ent.cells 2 (w.setCell ⟨p, 0, none⟩ u) ao l := by
  rcases h with rfl | ⟨b, off, rfl, hb, hc⟩
  · exact Or.inl rfl
  · refine Or.inr ⟨b, off, rfl, by rw [World.size_setCell]; exact hb, fun i hi j x hx => ?_⟩
    have hcell := hc i hi j x hx
    rw [World.cell?_setCell_other]
    · exact hcell
    · intro e
      rw [← e, hp] at hcell
      have hxe : x = .slice a n c := (Option.some.inj hcell).symm
      subst hxe
      have : Value.slice a n c ∈ Ent.cells l[i] := List.mem_of_getElem? hx
      simp [Ent.cells] at this
theorem BoxE.open {w : World} {v : Value} {l : List Ent} (h : BoxE w v l) : ∃ a c, v = .agg #[.slice a l.length c] ∧ BoxE w (.agg #[.slice a l.length c]) l := by
  obtain ⟨s, rfl, hs⟩ := h
  obtain ⟨ao, c, rfl, hs'⟩ := id hs
  exact ⟨ao, c, rfl, _, rfl, hs⟩
theorem BoxE.store {w : World} {v : Value} {l : List Ent} (h : BoxE w v l) {p : Nat} {a : Option Addr} {n c : Nat} (hp : w.cell? ⟨p, 0, none⟩ = some (.slice a n c)) (u : Value) : BoxE (w.setCell ⟨p, 0, none⟩ u) v l := by
  obtain ⟨s, rfl, ao, c', rfl, hs, h1, h2, h3⟩ := h
  exact ⟨_, rfl, ao, c', rfl, hs.storeE hp u, h1, h2, h3⟩
/-- A leaf in its box p. -/
structure InBoxE (p : Nat) (A : List Ent) (wr : World) : Prop where
  box : ∃ a c, wr.cell? ⟨p, 0, none⟩ = some (.slice a A.length c) ∧ BoxE wr (.agg #[.slice a A.length c]) A
  free : wr.frozen? ⟨p, 0, none⟩ = false
  lt : p < wr.heap.size
theorem InBoxE.on {p : Nat} {A : List Ent} {wr w' : World} (h : InBoxE p A wr) (hb : Below wr.heap.size wr w') : InBoxE p A w' := by
  obtain ⟨⟨a, c, h1, h2⟩, h3, h4⟩ := h
  exact ⟨⟨a, c, ((bcell hb).1 p 0 h4).trans h1, h2.kept hb (Nat.le_refl _)⟩, ((bcell hb).2 p 0 h4).trans h3, Nat.lt_of_lt_of_le h4 hb.size⟩
theorem InBoxE.put {p : Nat} {A : List Ent} {wr : World} (h : InBoxE p A wr) {a : Option Addr} {c : Nat} {A' : List Ent} (hv : BoxE wr (.agg #[.slice a A'.length c]) A') : InBoxE p A' (wr.setCell ⟨p, 0, none⟩ (.slice a A'.length c)) := by
  obtain ⟨⟨a0, c0, h1, h2⟩, h3, h4⟩ := h
  refine ⟨⟨a, c, World.cell?_setCell_same _ _ _ h1, hv.store h1 _⟩, ?_, by rw [World.size_setCell]; exact h4⟩
  rw [World.frozen?_setCell]; exact h3
theorem InBoxE.beside {p q : Nat} {A B : List Ent} {wr : World} (h : InBoxE p A wr) (hq : InBoxE q B wr) (hne : p ≠ q) (u : Value) : InBoxE p A (wr.setCell ⟨q, 0, none⟩ u) := by
  obtain ⟨⟨a, c, h1, h2⟩, h3, h4⟩ := h
  obtain ⟨⟨a0, c0, k1, k2⟩, k3, k4⟩ := hq
  refine ⟨⟨a, c, far_block hne h1, h2.store k1 _⟩, ?_, by rw [World.size_setCell]; exact h4⟩
  rw [World.frozen?_setCell]; exact h3
theorem InBoxE.new {w : World} {a : Option Addr} {c : Nat} {A : List Ent} (t : TypeId) (h : BoxE w (.agg #[.slice a A.length c]) A) : InBoxE w.heap.size A (w.alloc (.cells #[.slice a A.length c] t)) :=
  ⟨⟨a, c, by simp, h.kept (by go_grown) (Nat.le_refl _)⟩, by simp, by simp⟩
theorem InBoxE.drew {p : Nat} {A : List Ent} {wr : World} (h : InBoxE p A wr) : InBoxE p A wr.drew := h.on (below_drew' (Below.refl _ _))
/-- A slice of updates that was just laid. -/
theorem slU_laid (w : World) (t : TypeId) (fz : Nat × Nat) (us : List Upd) (cs : Array Value) (b n : Nat) (hb : w.heap.size = b) (hn : us.length = n) (hc : cs = (us.flatMap Upd.cells).toArray) (h0 : n ≤ 1000) : SlU (w.alloc (.cells cs t fz)) (.slice (some ⟨b, 0, none⟩) n n) us := by
  subst hb hn hc
  exact ⟨_, _, rfl, SlAt.new w _ _ _ us (fun x hx => rfl) (by simp), Nat.le_refl _, by omega, fun e => by simp at e⟩
/-- On, of one update, at a leaf that others made. -/
theorem leafOn_next (a : Option Addr) (n c : Nat) (G : List Ent) (us : List Upd) (u : Upd) (w : World) (t : TypeId) (hG : Rising Ent.key G) (hGf : FineE G) (hGl : G.length ≤ 100) (hn : n = (onAll G us).length) (h : BoxE w (.agg #[.slice a n c]) (onAll G us)) (hl : us.length ≤ 1000) (hu : u.Wf) :
    Calls Try.prog 16 #[.agg #[.slice a n c], .slice (some ⟨w.heap.size, 0, none⟩) 1 1] (w.alloc (.cells #[.int .u8 u.kind, .string (S u.key), .string (S u.val), .int .u64 u.delta] t)) fun e w' => (∃ a' c', e = .returned (.agg #[.slice a' (onAll G (us ++ [u])).length c']) ∧ BoxE w' (.agg #[.slice a' (onAll G (us ++ [u])).length c']) (onAll G (us ++ [u]))) ∧ Below w.heap.size w w' := by
  subst hn
  obtain ⟨h1, h2, h3⟩ := onAll_ok G hG hGf us
  have hb : Below w.heap.size w (w.alloc (.cells #[.int .u8 u.kind, .string (S u.key), .string (S u.val), .int .u64 u.delta] t)) := by go_grown
  refine (leafOn_any _ (onAll G us) _ [u] _ (h.kept hb (Nat.le_refl _)) (by omega) h1 h2 (slU_laid w _ _ [u] _ _ 1 rfl rfl rfl (by omega)) (fun x hx => by rw [List.mem_singleton] at hx; rw [hx]; exact hu) (by simp)).mono ?_
  rintro e w' ⟨⟨a', c', he, hv⟩, hb'⟩
  rw [show onAll (onAll G us) [u] = onAll G (us ++ [u]) from (onAll_snoc G us u).symm] at he hv
  exact ⟨⟨a', c', he, hv⟩, hb.trans (hb'.mono (by simp))⟩
/-- List, its length by name. -/
theorem listE_next (a : Option Addr) (n c : Nat) (A : List Ent) (w : World) (hn : n = A.length) (h : BoxE w (.agg #[.slice a n c]) A) (hl : A.length ≤ 1000000) :
    Calls Try.prog 20 #[.agg #[.slice a n c]] w fun e w' => (∃ a' c', e = .returned (.slice a' n c') ∧ w'.ownsRow w.heap.size 54 2 (.slice a' n c') n (cellsE A)) ∧ Below w.heap.size w w' := by
  subst hn
  refine (listE _ A w h hl).mono ?_
  rintro e w' ⟨⟨v', rfl, hown⟩, hb⟩
  obtain ⟨a', c', rfl⟩ := own_form hown
  exact ⟨⟨a', c', rfl, hown⟩, hb⟩
theorem ent_guard (op : BinOp) (x y : Operand) (xs ys : Array Value) (w : World) : (eqGuard op 54 x y (.agg xs) (.agg ys)).run Try.prog w = .ok () w := run_eqGuard_agg w op _ x y xs ys (by kernel_rfl)
theorem ent_under : Try.prog.underlying 54 = some (.struct (Try.prog.fieldsOf 54)) := by kernel_rfl
theorem ent_held : Try.prog.stoodInHeld 54 = false := by kernel_rfl
theorem ent_neq_same (a b : ByteArray) (w : World) : (binOp .neq 54 (.agg #[.string a, .string b]) (.agg #[.string a, .string b])).run Try.prog w = .ok (.bool false) w := by
  rw [run_neq_struct, run_equalIn_agg _ _ _ _ _ ent_under ent_held]
  simp [Program.fieldsOf, Try.underlying54, Try.underlying9, Op.eqFields, go_sem]
theorem SlE.cells2 {w : World} {a : Option Addr} {n c : Nat} {A : List Ent} (h : SlE w (.slice a n c) A) (i : Nat) (hi : i < A.length) :
    ∃ b off, a = some ⟨b, off, none⟩ ∧ b < w.heap.size ∧ w.cell? ⟨b, off + i * 2, none⟩ = some (.string (S A[i].key)) ∧ w.cell? ⟨b, off + i * 2 + 1, none⟩ = some (.string (S A[i].val)) := by
  obtain ⟨ao, c', e, hs, -⟩ := h
  simp only [Value.slice.injEq] at e
  obtain ⟨rfl, rfl, rfl⟩ := e
  obtain ⟨b, off, rfl, hb, hc⟩ := hs.at (by omega)
  obtain ⟨h0, h1⟩ := entCells hc i hi
  exact ⟨b, off, rfl, hb, h0, h1⟩
/-- Two lists of the same entries, at one place of both. -/
theorem pairE_at {w : World} {a a' : Option Addr} {n n' c c' : Nat} {A : List Ent} (h : SlE w (.slice a n c) A) (h' : SlE w (.slice a' n' c') A) (i : Nat) (hi : i < A.length) :
    ∃ b off b' off' u, A[i] = u ∧ a = some ⟨b, off, none⟩ ∧ a' = some ⟨b', off', none⟩ ∧ (w.cell? ⟨b, off + i * 2, none⟩ = some (.string (S u.key)) ∧ w.cell? ⟨b, off + i * 2 + 1, none⟩ = some (.string (S u.val))) ∧
      (w.cell? ⟨b', off' + i * 2, none⟩ = some (.string (S u.key)) ∧ w.cell? ⟨b', off' + i * 2 + 1, none⟩ = some (.string (S u.val))) := by
  obtain ⟨b, off, rfl, -, h1⟩ := h.cells2 i hi
  obtain ⟨b', off', rfl, -, h2⟩ := h'.cells2 i hi
  exact ⟨b, off, b', off', _, rfl, rfl, rfl, h1, h2⟩

end Go.Proofs.Ytcjeonamebnpfaa
