/-
  What BufOrder's second loop holds: two buffers in their boxes; and plain laws on its lists.
-/
import Derived.Test.YtcjeonamebnpfaaOrdL
import Derived.Test.YtcjeonamebnpfaaUpdB
import Derived.Test.YtcjeonamebnpfaaOrdP
import Derived.Test.YtcjeonamebnpfaaWake
namespace Go.Proofs.Ytcjeonamebnpfaa
open Go.RowKit

theorem firsts_snoc' (l : List Upd) (u : Upd) : firsts (l ++ [u]) = firstStep (firsts l) u := by
  unfold firsts
  rw [List.foldl_append]
  rfl
theorem firsts_ok : ∀ (l : List Upd), (∀ u ∈ l, u.Wf) → (∀ x ∈ firsts l, x.Wf ∧ x.key.length ≤ 3 ∧ x.val.length ≤ 20) ∧ ((firsts l).map Upd.key).Nodup := by
  intro l
  induction l using snoc_ind with
  | h0 => intro _; exact ⟨fun x hx => by simp [firsts] at hx, by simp [firsts]⟩
  | h1 us u ih =>
    intro h
    obtain ⟨h1, h2⟩ := ih (fun x hx => h x (by simp [hx]))
    rw [firsts_snoc']
    unfold firstStep
    split
    · exact ⟨h1, h2⟩
    · rename_i hno
      refine ⟨fun x hx => ?_, ?_⟩
      · rcases List.mem_append.1 hx with hx | hx
        · exact h1 x hx
        · rw [List.mem_singleton] at hx
          subst hx
          exact tame_fits u (h u (by simp))
      · rw [List.map_append, List.nodup_append]
        refine ⟨h2, by simp, fun a ha b hb => ?_⟩
        simp only [List.map_cons, List.map_nil, List.mem_singleton] at hb
        subst hb
        exact fun e => hno (e ▸ ha)

/-- Whatever turn: the same buffer. -/
theorem turned_same (F : List Upd) (t : Nat) (hf : ∀ u ∈ F, u.Wf ∧ u.val.length ≤ 1000000) (hn : (F.map Upd.key).Nodup) : withAll (rotL F t F.length) = withAll F := by
  have hp := rotL_perm F t
  have hf' : ∀ u ∈ rotL F t F.length, u.Wf ∧ u.val.length ≤ 1000000 := fun u hu => hf u (hp.mem_iff.1 hu)
  have hn' : ((rotL F t F.length).map Upd.key).Nodup := (hp.map Upd.key).nodup_iff.2 hn
  exact rising_unique _ _ (withAll_ok _ hf').1 (withAll_ok _ hf).1 ((withAll_perm _ hf' hn').trans (hp.trans (withAll_perm _ hf hn).symm))

/-! ### two buffers in their boxes -/
theorem SlAt.store {w : World} {ao : Option Addr} {l : List Upd} (h : SlAt Upd.cells 4 w ao l) {p : Nat} {a : Option Addr} {n c : Nat} (hp : w.cell? ⟨p, 0, none⟩ = some (.slice a n c)) (u : Value) : SlAt Upd.cells 4 (w.setCell ⟨p, 0, none⟩ u) ao l := by
  rcases h with rfl | ⟨b, off, rfl, hb, hc⟩
  · exact Or.inl rfl
  · refine Or.inr ⟨b, off, rfl, by rw [World.size_setCell]; exact hb, fun i hi j x hx => ?_⟩
    have hcell := hc i hi j x hx
    rw [World.cell?_setCell_other]
    · exact hcell
    · intro e
      rw [← e, hp] at hcell
      have hxe : x = .slice a n c := (Option.some.inj hcell).symm
      subst hxe
      have : Value.slice a n c ∈ Upd.cells l[i] := List.mem_of_getElem? hx
      simp [Upd.cells] at this
theorem BoxU.store {w : World} {v : Value} {l : List Upd} (h : BoxU w v l) {p : Nat} {a : Option Addr} {n c : Nat} (hp : w.cell? ⟨p, 0, none⟩ = some (.slice a n c)) (u : Value) : BoxU (w.setCell ⟨p, 0, none⟩ u) v l := by
  obtain ⟨s, rfl, ao, c', rfl, hs, h1, h2, h3⟩ := h
  exact ⟨_, rfl, ao, c', rfl, hs.store hp u, h1, h2, h3⟩

/-- A buffer in its box p. -/
structure InBox (p : Nat) (A : List Upd) (wr : World) : Prop where
  box : ∃ a c, wr.cell? ⟨p, 0, none⟩ = some (.slice a A.length c) ∧ BoxU wr (.agg #[.slice a A.length c]) A
  free : wr.frozen? ⟨p, 0, none⟩ = false
  lt : p < wr.heap.size
theorem InBox.on {p : Nat} {A : List Upd} {wr w' : World} (h : InBox p A wr) (hb : Below wr.heap.size wr w') : InBox p A w' := by
  obtain ⟨⟨a, c, h1, h2⟩, h3, h4⟩ := h
  exact ⟨⟨a, c, ((bcell hb).1 p 0 h4).trans h1, h2.kept hb (Nat.le_refl _)⟩, ((bcell hb).2 p 0 h4).trans h3, Nat.lt_of_lt_of_le h4 hb.size⟩
theorem InBox.put {p : Nat} {A : List Upd} {wr : World} (h : InBox p A wr) {a : Option Addr} {c : Nat} {A' : List Upd} (hv : BoxU wr (.agg #[.slice a A'.length c]) A') : InBox p A' (wr.setCell ⟨p, 0, none⟩ (.slice a A'.length c)) := by
  obtain ⟨⟨a0, c0, h1, h2⟩, h3, h4⟩ := h
  refine ⟨⟨a, c, World.cell?_setCell_same _ _ _ h1, hv.store h1 _⟩, ?_, by rw [World.size_setCell]; exact h4⟩
  rw [World.frozen?_setCell]; exact h3
theorem InBox.beside {p q : Nat} {A B : List Upd} {wr : World} (h : InBox p A wr) (hq : InBox q B wr) (hne : p ≠ q) (u : Value) : InBox p A (wr.setCell ⟨q, 0, none⟩ u) := by
  obtain ⟨⟨a, c, h1, h2⟩, h3, h4⟩ := h
  obtain ⟨⟨a0, c0, k1, k2⟩, k3, k4⟩ := hq
  refine ⟨⟨a, c, far_block hne h1, h2.store k1 _⟩, ?_, by rw [World.size_setCell]; exact h4⟩
  rw [World.frozen?_setCell]; exact h3
theorem InBox.new (w : World) (t : TypeId) : InBox w.heap.size [] (w.alloc (.cells #[.slice none 0 0] t)) :=
  ⟨⟨none, 0, by simp, ⟨_, rfl, SlU.nil _⟩⟩, by simp, by simp⟩

theorem InBox.drew {p : Nat} {A : List Upd} {wr : World} (h : InBox p A wr) : InBox p A wr.drew := h.on (below_drew' (Below.refl _ _))
/-- With, at a buffer that others made. -/
theorem with_next (a : Option Addr) (n c : Nat) (us : List Upd) (u : Upd) (w : World) (hn : n = (withAll us).length) (h : BoxU w (.agg #[.slice a n c]) (withAll us)) (hl : us.length ≤ 1000) (hus : ∀ x ∈ us, x.Wf ∧ x.val.length ≤ 1000000) (hu : u.Wf) :
    Calls Try.prog 12 #[.agg #[.slice a n c], .agg #[.int .u8 u.kind, .string (S u.key), .string (S u.val), .int .u64 u.delta]] w fun e w' => (∃ a' c', e = .returned (.agg #[.slice a' (withAll (us ++ [u])).length c']) ∧ BoxU w' (.agg #[.slice a' (withAll (us ++ [u])).length c']) (withAll (us ++ [u]))) ∧ Below w.heap.size w w' := by
  subst hn
  obtain ⟨h1, h2, h3⟩ := withAll_ok us hus
  refine (with_any _ (withAll us) u.kind u.key u.val u.delta w h (by omega) h1 h2 hu.1 hu.2).mono ?_
  rintro e w' ⟨⟨v', he, hv⟩, hb⟩
  rw [show withL (withAll us) ⟨u.kind, u.key, u.val, u.delta⟩ = withAll (us ++ [u]) from (withAll_snoc us u).symm] at hv
  obtain ⟨a', c', rfl, hv'⟩ := hv.open
  exact ⟨⟨a', c', he, hv'⟩, hb⟩

end Go.Proofs.Ytcjeonamebnpfaa
