/-
  What BufOrder's second loop holds: two buffers in their boxes; and plain laws on its lists.
-/
import Derived.Test.YtcjeonamebnpfaaOrdL
import Derived.Test.YtcjeonamebnpfaaOrdP
import Derived.Test.YtcjeonamebnpfaaWake
namespace Go.Proofs.Ytcjeonamebnpfaa
open Go.RowKit

theorem firsts_snoc' (l : List Upd) (u : Upd) : firsts (l ++ [u]) = firstStep (firsts l) u := by
  unfold firsts
  rw [List.foldl_append]
  rfl
theorem firsts_ok : ∀ (l : List Upd), (∀ u ∈ l, u.Wf) → (∀ x ∈ firsts l, x.Wf ∧ x.key.length ≤ 3 ∧ x.val.length ≤ 20) ∧ ((firsts l).map Upd.key).Nodup := by
  intro l
  induction l using snoc_ind with
  | h0 => intro _; exact ⟨fun x hx => by simp [firsts] at hx, by simp [firsts]⟩
  | h1 us u ih =>
    intro h
    obtain ⟨h1, h2⟩ := ih (fun x hx => h x (by simp [hx]))
    rw [firsts_snoc']
    unfold firstStep
    split
    · exact ⟨h1, h2⟩
    · rename_i hno
      refine ⟨fun x hx => ?_, ?_⟩
      · rcases List.mem_append.1 hx with hx | hx
        · exact h1 x hx
        · rw [List.mem_singleton] at hx
          subst hx
          exact tame_fits u (h u (by simp))
      · rw [List.map_append, List.nodup_append]
        refine ⟨h2, by simp, fun a ha b hb => ?_⟩
        simp only [List.map_cons, List.map_nil, List.mem_singleton] at hb
        subst hb
        exact fun e => hno (e ▸ ha)

/-- The list from another place on, round. -/
def rotL (F : List Upd) (t k : Nat) : List Upd := (List.range k).map fun i => F[(i + t) % F.length]?.getD ⟨0, [], [], 0⟩
theorem rotL_snoc (F : List Upd) (t k : Nat) (h : (k + t) % F.length < F.length) : rotL F t (k + 1) = rotL F t k ++ [F[(k + t) % F.length]] := by
  unfold rotL
  rw [List.range_succ, List.map_append]
  simp [h]
theorem rotL_all (F : List Upd) (t : Nat) : rotL F t F.length = F.drop (t % F.length) ++ F.take (t % F.length) := by
  by_cases h0 : F.length = 0
  · have : F = [] := List.eq_nil_of_length_eq_zero h0
    subst this
    simp [rotL]
  have ht : t % F.length < F.length := Nat.mod_lt _ (by omega)
  apply List.ext_getElem
  · simp only [rotL, List.length_map, List.length_range, List.length_append, List.length_drop, List.length_take]
    omega
  · intro i h1 h2
    have hi : i < F.length := by simpa [rotL] using h1
    have e : (i + t) % F.length = if i < F.length - t % F.length then i + t % F.length else i + t % F.length - F.length := by
      rw [Nat.add_mod, Nat.mod_eq_of_lt hi]
      split
      · exact Nat.mod_eq_of_lt (by omega)
      · rw [Nat.mod_eq_sub_mod (by omega), Nat.mod_eq_of_lt (by omega)]
    simp only [rotL, List.getElem_map, List.getElem_range]
    rw [List.getElem_append]
    simp only [List.length_drop]
    split
    · rename_i hlt
      rw [e, if_pos hlt, List.getElem_drop, List.getElem?_eq_getElem (by omega)]
      simp only [Option.getD_some]
      congr 1
      omega
    · rename_i hlt
      rw [e, if_neg hlt, List.getElem_take, List.getElem?_eq_getElem (by omega)]
      simp only [Option.getD_some]
      congr 1
      omega
theorem rotL_perm (F : List Upd) (t : Nat) : (rotL F t F.length).Perm F := by
  rw [rotL_all]
  have := List.perm_append_comm (l₁ := F.drop (t % F.length)) (l₂ := F.take (t % F.length))
  rw [List.take_append_drop] at this
  exact this
theorem rotL_mem {F : List Upd} {t k : Nat} (h0 : 0 < F.length) {x : Upd} (hx : x ∈ rotL F t k) : x ∈ F := by
  unfold rotL at hx
  obtain ⟨i, -, rfl⟩ := List.mem_map.1 hx
  have : (i + t) % F.length < F.length := Nat.mod_lt _ h0
  rw [List.getElem?_eq_getElem this, Option.getD_some]
  exact List.getElem_mem _
/-- Whatever turn: the same buffer. -/
theorem turned_same (F : List Upd) (t : Nat) (hf : ∀ u ∈ F, u.Wf ∧ u.val.length ≤ 1000000) (hn : (F.map Upd.key).Nodup) : withAll (rotL F t F.length) = withAll F := by
  have hp := rotL_perm F t
  have hf' : ∀ u ∈ rotL F t F.length, u.Wf ∧ u.val.length ≤ 1000000 := fun u hu => hf u (hp.mem_iff.1 hu)
  have hn' : ((rotL F t F.length).map Upd.key).Nodup := (hp.map Upd.key).nodup_iff.2 hn
  exact rising_unique _ _ (withAll_ok _ hf').1 (withAll_ok _ hf).1 ((withAll_perm _ hf' hn').trans (hp.trans (withAll_perm _ hf hn).symm))

/-! ### two buffers in their boxes -/
theorem SlAt.store {w : World} {ao : Option Addr} {l : List Upd} (h : SlAt Upd.cells 4 w ao l) {p : Nat} {a : Option Addr} {n c : Nat} (hp : w.cell? ⟨p, 0, none⟩ = some (.slice a n c)) (u : Value) : SlAt Upd.cells 4 (w.setCell ⟨p, 0, none⟩ u) ao l := by
  rcases h with rfl | ⟨b, off, rfl, hb, hc⟩
  · exact Or.inl rfl
  · refine Or.inr ⟨b, off, rfl, by rw [World.size_setCell]; exact hb, fun i hi j x hx => ?_⟩
    have hcell := hc i hi j x hx
    rw [World.cell?_setCell_other]
    · exact hcell
    · intro e
      rw [← e, hp] at hcell
      have hxe : x = .slice a n c := (Option.some.inj hcell).symm
      subst hxe
      have : Value.slice a n c ∈ Upd.cells l[i] := List.mem_of_getElem? hx
      simp [Upd.cells] at this
theorem BoxU.store {w : World} {v : Value} {l : List Upd} (h : BoxU w v l) {p : Nat} {a : Option Addr} {n c : Nat} (hp : w.cell? ⟨p, 0, none⟩ = some (.slice a n c)) (u : Value) : BoxU (w.setCell ⟨p, 0, none⟩ u) v l := by
  obtain ⟨s, rfl, ao, c', rfl, hs, h1, h2, h3⟩ := h
  exact ⟨_, rfl, ao, c', rfl, hs.store hp u, h1, h2, h3⟩

/-- A buffer in its box p. -/
structure InBox (p : Nat) (A : List Upd) (wr : World) : Prop where
  box : ∃ a c, wr.cell? ⟨p, 0, none⟩ = some (.slice a A.length c) ∧ BoxU wr (.agg #[.slice a A.length c]) A
  free : wr.frozen? ⟨p, 0, none⟩ = false
  lt : p < wr.heap.size
theorem InBox.on {p : Nat} {A : List Upd} {wr w' : World} (h : InBox p A wr) (hb : Below wr.heap.size wr w') : InBox p A w' := by
  obtain ⟨⟨a, c, h1, h2⟩, h3, h4⟩ := h
  exact ⟨⟨a, c, ((bcell hb).1 p 0 h4).trans h1, h2.kept hb (Nat.le_refl _)⟩, ((bcell hb).2 p 0 h4).trans h3, Nat.lt_of_lt_of_le h4 hb.size⟩
theorem InBox.put {p : Nat} {A : List Upd} {wr : World} (h : InBox p A wr) {a : Option Addr} {c : Nat} {A' : List Upd} (hv : BoxU wr (.agg #[.slice a A'.length c]) A') : InBox p A' (wr.setCell ⟨p, 0, none⟩ (.slice a A'.length c)) := by
  obtain ⟨⟨a0, c0, h1, h2⟩, h3, h4⟩ := h
  refine ⟨⟨a, c, World.cell?_setCell_same _ _ _ h1, hv.store h1 _⟩, ?_, by rw [World.size_setCell]; exact h4⟩
  rw [World.frozen?_setCell]; exact h3
theorem InBox.beside {p q : Nat} {A B : List Upd} {wr : World} (h : InBox p A wr) (hq : InBox q B wr) (hne : p ≠ q) (u : Value) : InBox p A (wr.setCell ⟨q, 0, none⟩ u) := by
  obtain ⟨⟨a, c, h1, h2⟩, h3, h4⟩ := h
  obtain ⟨⟨a0, c0, k1, k2⟩, k3, k4⟩ := hq
  refine ⟨⟨a, c, far_block hne h1, h2.store k1 _⟩, ?_, by rw [World.size_setCell]; exact h4⟩
  rw [World.frozen?_setCell]; exact h3
theorem InBox.new (w : World) (t : TypeId) : InBox w.heap.size [] (w.alloc (.cells #[.slice none 0 0] t)) :=
  ⟨⟨none, 0, by simp, ⟨_, rfl, SlU.nil _⟩⟩, by simp, by simp⟩

theorem InBox.drew {p : Nat} {A : List Upd} {wr : World} (h : InBox p A wr) : InBox p A wr.drew := h.on (below_drew' (Below.refl _ _))
/-- With, at a buffer that others made. -/
theorem with_next (a : Option Addr) (n c : Nat) (us : List Upd) (u : Upd) (w : World) (hn : n = (withAll us).length) (h : BoxU w (.agg #[.slice a n c]) (withAll us)) (hl : us.length ≤ 1000) (hus : ∀ x ∈ us, x.Wf ∧ x.val.length ≤ 1000000) (hu : u.Wf) :
    Calls Try.prog 12 #[.agg #[.slice a n c], .agg #[.int .u8 u.kind, .string (S u.key), .string (S u.val), .int .u64 u.delta]] w fun e w' => (∃ a' c', e = .returned (.agg #[.slice a' (withAll (us ++ [u])).length c']) ∧ BoxU w' (.agg #[.slice a' (withAll (us ++ [u])).length c']) (withAll (us ++ [u]))) ∧ Below w.heap.size w w' := by
  subst hn
  obtain ⟨h1, h2, h3⟩ := withAll_ok us hus
  refine (with_any _ (withAll us) u.kind u.key u.val u.delta w h (by omega) h1 h2 hu.1 hu.2).mono ?_
  rintro e w' ⟨⟨v', he, hv⟩, hb⟩
  rw [show withL (withAll us) ⟨u.kind, u.key, u.val, u.delta⟩ = withAll (us ++ [u]) from (withAll_snoc us u).symm] at hv
  obtain ⟨a', c', rfl, hv'⟩ := hv.open
  exact ⟨⟨a', c', he, hv'⟩, hb⟩

/-- List, its length by name. -/
theorem list_next (a : Option Addr) (n c : Nat) (A : List Upd) (w : World) (hn : n = A.length) (h : BoxU w (.agg #[.slice a n c]) A) (hl : A.length ≤ 1000000) :
    Calls Try.prog 13 #[.agg #[.slice a n c]] w fun e w' => (∃ a' c', e = .returned (.slice a' n c') ∧ w'.ownsRow w.heap.size 31 4 (.slice a' n c') n (cellsU A)) ∧ Below w.heap.size w w' := by
  subst hn
  refine (listU _ A w h hl).mono ?_
  rintro e w' ⟨⟨v', rfl, hown⟩, hb⟩
  obtain ⟨a', c', rfl⟩ := own_form hown
  exact ⟨⟨a', c', rfl, hown⟩, hb⟩

theorem upd_guard (op : BinOp) (x y : Operand) (xs ys : Array Value) (w : World) : (eqGuard op 31 x y (.agg xs) (.agg ys)).run Try.prog w = .ok () w := run_eqGuard_agg w op _ x y xs ys (by kernel_rfl)
theorem upd_under : Try.prog.underlying 31 = some (.struct (Try.prog.fieldsOf 31)) := by kernel_rfl
theorem upd_held : Try.prog.stoodInHeld 31 = false := by kernel_rfl
theorem upd_neq_same (k d : Int) (a b : ByteArray) (w : World) : (binOp .neq 31 (.agg #[.int .u8 k, .string a, .string b, .int .u64 d]) (.agg #[.int .u8 k, .string a, .string b, .int .u64 d])).run Try.prog w = .ok (.bool false) w := by
  rw [run_neq_struct, run_equalIn_agg _ _ _ _ _ upd_under upd_held]
  simp [Program.fieldsOf, Try.underlying31, Try.underlying29, Try.underlying9, Try.underlying26, Op.eqFields, go_sem]

theorem SlU.cells4 {w : World} {a : Option Addr} {n c : Nat} {A : List Upd} (h : SlU w (.slice a n c) A) (i : Nat) (hi : i < A.length) :
    ∃ b off, a = some ⟨b, off, none⟩ ∧ b < w.heap.size ∧ w.cell? ⟨b, off + i * 4, none⟩ = some (.int .u8 A[i].kind) ∧ w.cell? ⟨b, off + i * 4 + 1, none⟩ = some (.string (S A[i].key)) ∧ w.cell? ⟨b, off + i * 4 + 2, none⟩ = some (.string (S A[i].val)) ∧ w.cell? ⟨b, off + i * 4 + 3, none⟩ = some (.int .u64 A[i].delta) := by
  obtain ⟨ao, c', e, hs, -⟩ := h
  simp only [Value.slice.injEq] at e
  obtain ⟨rfl, rfl, rfl⟩ := e
  exact SlAt.cells4 hs i hi
theorem below_drewN {B : Nat} {a w : World} (h : Below B a w) (m : Nat) : Below B a (w.drewN m) := ⟨h.os, h.tape, h.output, h.size, h.block⟩
/-- Two lists of the same updates, at one place of both. -/
theorem pair_at {w : World} {a a' : Option Addr} {n n' c c' : Nat} {A : List Upd} (h : SlU w (.slice a n c) A) (h' : SlU w (.slice a' n' c') A) (i : Nat) (hi : i < A.length) :
    ∃ b off b' off' u, A[i] = u ∧ a = some ⟨b, off, none⟩ ∧ a' = some ⟨b', off', none⟩ ∧ (w.cell? ⟨b, off + i * 4, none⟩ = some (.int .u8 u.kind) ∧ w.cell? ⟨b, off + i * 4 + 1, none⟩ = some (.string (S u.key)) ∧ w.cell? ⟨b, off + i * 4 + 2, none⟩ = some (.string (S u.val)) ∧ w.cell? ⟨b, off + i * 4 + 3, none⟩ = some (.int .u64 u.delta)) ∧
      (w.cell? ⟨b', off' + i * 4, none⟩ = some (.int .u8 u.kind) ∧ w.cell? ⟨b', off' + i * 4 + 1, none⟩ = some (.string (S u.key)) ∧ w.cell? ⟨b', off' + i * 4 + 2, none⟩ = some (.string (S u.val)) ∧ w.cell? ⟨b', off' + i * 4 + 3, none⟩ = some (.int .u64 u.delta)) := by
  obtain ⟨b, off, rfl, -, h1⟩ := h.cells4 i hi
  obtain ⟨b', off', rfl, -, h2⟩ := h'.cells4 i hi
  exact ⟨b, off, b', off', _, rfl, rfl, rfl, h1, h2⟩

end Go.Proofs.Ytcjeonamebnpfaa
