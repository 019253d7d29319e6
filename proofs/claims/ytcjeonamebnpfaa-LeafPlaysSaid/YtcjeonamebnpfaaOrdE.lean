/-
  What the walk of LeafOrder speaks of: the first updates of each key; a set of keys; two leaves in their boxes.
-/
import Derived.Test.YtcjeonamebnpfaaOfE
import Derived.Test.YtcjeonamebnpfaaOrdT
import Derived.Test.YtcjeonamebnpfaaLeafA
namespace Go.Proofs.Ytcjeonamebnpfaa
open Go.RowKit

/-- The first of each key, cut. -/
def firstStepE (acc : List Upd) (u : Upd) : List Upd := if (ofL u).key ∈ acc.map Upd.key then acc else acc ++ [ofL u]
def firstsE (l : List Upd) : List Upd := l.foldl firstStepE []
theorem firstsE_snoc (l : List Upd) (k : Nat) (hk : k < l.length) : firstsE (l.take (k + 1)) = firstStepE (firstsE (l.take k)) l[k] := by
  unfold firstsE
  rw [List.take_succ_eq_append_getElem hk, List.foldl_append]
  rfl
theorem firstsE_len (l : List Upd) : (firstsE l).length ≤ l.length := by
  suffices h : ∀ (l acc : List Upd), (l.foldl firstStepE acc).length ≤ acc.length + l.length by simpa [firstsE] using h l []
  intro l
  induction l with
  | nil => intro acc; simp
  | cons u r ih =>
    intro acc
    have := ih (firstStepE acc u)
    have h2 : (firstStepE acc u).length ≤ acc.length + 1 := by unfold firstStepE; split <;> simp
    simp only [List.foldl_cons, List.length_cons]
    omega
theorem firstsE_snoc' (l : List Upd) (u : Upd) : firstsE (l ++ [u]) = firstStepE (firstsE l) u := by
  unfold firstsE
  rw [List.foldl_append]
  rfl
theorem firstsE_ok : ∀ (l : List Upd), (∀ u ∈ l, u.Wf) → (∀ x ∈ firstsE l, x.Wf ∧ x.key.length ≤ 20 ∧ x.val.length ≤ 36) ∧ ((firstsE l).map Upd.key).Nodup := by
  intro l
  induction l using snoc_ind with
  | h0 => intro _; exact ⟨fun x hx => by simp [firstsE] at hx, by simp [firstsE]⟩
  | h1 us u ih =>
    intro h
    obtain ⟨h1, h2⟩ := ih (fun x hx => h x (by simp [hx]))
    rw [firstsE_snoc']
    unfold firstStepE
    split
    · exact ⟨h1, h2⟩
    · rename_i hno
      refine ⟨fun x hx => ?_, ?_⟩
      · rcases List.mem_append.1 hx with hx | hx
        · exact h1 x hx
        · rw [List.mem_singleton] at hx
          subst hx
          exact of_fits u (h u (by simp))
      · rw [List.map_append, List.nodup_append]
        refine ⟨h2, by simp, fun a ha b hb => ?_⟩
        simp only [List.map_cons, List.map_nil, List.mem_singleton] at hb
        subst hb
        exact fun e => hno (e ▸ ha)

/-- The walk's list and set. -/
structure AllE (w0 : World) (l : List Upd) (n : Nat) (v : Value) (wr : World) : Prop where
  own : wr.ownsRow (w0.heap.size + 1) 31 4 v l.length (cellsU l)
  set : KeyS wr w0.heap.size n (l.map Upd.key)
  below : Below w0.heap.size w0 wr
theorem AllE.size {w0 : World} {l : List Upd} {n : Nat} {v : Value} {wr : World} (h : AllE w0 l n v wr) : w0.heap.size < wr.heap.size := h.set.lt
theorem AllE.on {w0 : World} {l : List Upd} {n : Nat} {v : Value} {wr w' : World} (h : AllE w0 l n v wr) (hb : Below wr.heap.size wr w') : AllE w0 l n v w' :=
  ⟨own_below h.own hb, h.set.below hb, h.below.trans (below_same hb (by have := h.size; omega))⟩
theorem AllE.put {w0 : World} {l : List Upd} {n : Nat} {v : Value} {wr w1 w2 : World} {u : Upd} (h : AllE w0 l n v wr) {v' : Value} (hset : KeyS w1 w0.heap.size (n + 1) (l.map Upd.key ++ [u.key])) (h1 : wr.grownBy w1 (some w0.heap.size))
    {t : TypeId} (hown : w2.ownsRow (w0.heap.size + 1) 31 4 v' (l.length + 1) (cellsU l ++ [.int .u8 u.kind, .string (S u.key), .string (S u.val), .int .u64 u.delta])) (h2 : (w1.alloc (.cells #[.int .u8 u.kind, .string (S u.key), .string (S u.val), .int .u64 u.delta] t)).grownBy w2 v.ownBlock) :
    AllE w0 (l ++ [u]) (n + 1) v' w2 := by
  have hne : ∀ k, v.ownBlock = some k → w0.heap.size + 1 ≤ k := fun k e => (h.own.lt k e).1
  have hsz := h.size
  have hs1 := h1.size
  have hA : w1.grownBy w2 v.ownBlock := by
    refine ⟨h2.os, h2.tape, h2.output, Nat.le_trans (by simp) h2.size, fun i hi he => ?_⟩
    exact (h2.block i (by simp; omega) he).trans (Below.heap_alloc _ _ _ hi)
  refine ⟨?_, ?_, ?_⟩
  · rw [cellsU_snoc, List.length_append, List.length_singleton]; exact hown
  · rw [List.map_append]
    exact hset.kept hA (fun e => by have := hne _ e.symm; omega)
  · exact below_grown (below_grown h.below h1 (fun k e => by simp at e; omega) (by omega)) hA (fun k e => by have := hne k e; omega) (by omega)

theorem SlAt.storeE {w : World} {ao : Option Addr} {l : List Ent} (h : SlAt Ent.cells 2 w ao l) {p : Nat} {a : Option Addr} {n c : Nat} (hp : w.cell? ⟨p, 0, none⟩ = some (.slice a n c)) (u : Value) : SlAt Ent.cells 2 (w.setCell ⟨p, 0, none⟩ u) ao l := by
  rcases h with rfl | ⟨b, off, rfl, hb, hc⟩
  · exact Or.inl rfl
  · refine Or.inr ⟨b, off, rfl, by rw [World.size_setCell]; exact hb, fun i hi j x hx => ?_⟩
    have hcell := hc i hi j x hx
    rw [World.cell?_setCell_other]
    · exact hcell
    · intro e
      rw [← e, hp] at hcell
      have hxe : x = .slice a n c := (Option.some.inj hcell).symm
      subst hxe
      have : Value.slice a n c ∈ Ent.cells l[i] := List.mem_of_getElem? hx
      simp [Ent.cells] at this
theorem BoxE.open {w : World} {v : Value} {l : List Ent} (h : BoxE w v l) : ∃ a c, v = .agg #[.slice a l.length c] ∧ BoxE w (.agg #[.slice a l.length c]) l := by
  obtain ⟨s, rfl, hs⟩ := h
  obtain ⟨ao, c, rfl, hs'⟩ := id hs
  exact ⟨ao, c, rfl, _, rfl, hs⟩
theorem BoxE.store {w : World} {v : Value} {l : List Ent} (h : BoxE w v l) {p : Nat} {a : Option Addr} {n c : Nat} (hp : w.cell? ⟨p, 0, none⟩ = some (.slice a n c)) (u : Value) : BoxE (w.setCell ⟨p, 0, none⟩ u) v l := by
  obtain ⟨s, rfl, ao, c', rfl, hs, h1, h2, h3⟩ := h
  exact ⟨_, rfl, ao, c', rfl, hs.storeE hp u, h1, h2, h3⟩
/-- A leaf in its box p. -/
structure InBoxE (p : Nat) (A : List Ent) (wr : World) : Prop where
  box : ∃ a c, wr.cell? ⟨p, 0, none⟩ = some (.slice a A.length c) ∧ BoxE wr (.agg #[.slice a A.length c]) A
  free : wr.frozen? ⟨p, 0, none⟩ = false
  lt : p < wr.heap.size
theorem InBoxE.on {p : Nat} {A : List Ent} {wr w' : World} (h : InBoxE p A wr) (hb : Below wr.heap.size wr w') : InBoxE p A w' := by
  obtain ⟨⟨a, c, h1, h2⟩, h3, h4⟩ := h
  exact ⟨⟨a, c, ((bcell hb).1 p 0 h4).trans h1, h2.kept hb (Nat.le_refl _)⟩, ((bcell hb).2 p 0 h4).trans h3, Nat.lt_of_lt_of_le h4 hb.size⟩
theorem InBoxE.put {p : Nat} {A : List Ent} {wr : World} (h : InBoxE p A wr) {a : Option Addr} {c : Nat} {A' : List Ent} (hv : BoxE wr (.agg #[.slice a A'.length c]) A') : InBoxE p A' (wr.setCell ⟨p, 0, none⟩ (.slice a A'.length c)) := by
  obtain ⟨⟨a0, c0, h1, h2⟩, h3, h4⟩ := h
  refine ⟨⟨a, c, World.cell?_setCell_same _ _ _ h1, hv.store h1 _⟩, ?_, by rw [World.size_setCell]; exact h4⟩
  rw [World.frozen?_setCell]; exact h3
theorem InBoxE.beside {p q : Nat} {A B : List Ent} {wr : World} (h : InBoxE p A wr) (hq : InBoxE q B wr) (hne : p ≠ q) (u : Value) : InBoxE p A (wr.setCell ⟨q, 0, none⟩ u) := by
  obtain ⟨⟨a, c, h1, h2⟩, h3, h4⟩ := h
  obtain ⟨⟨a0, c0, k1, k2⟩, k3, k4⟩ := hq
  refine ⟨⟨a, c, far_block hne h1, h2.store k1 _⟩, ?_, by rw [World.size_setCell]; exact h4⟩
  rw [World.frozen?_setCell]; exact h3
theorem InBoxE.new {w : World} {a : Option Addr} {c : Nat} {A : List Ent} (t : TypeId) (h : BoxE w (.agg #[.slice a A.length c]) A) : InBoxE w.heap.size A (w.alloc (.cells #[.slice a A.length c] t)) :=
  ⟨⟨a, c, by simp, h.kept (by go_grown) (Nat.le_refl _)⟩, by simp, by simp⟩
theorem InBoxE.drew {p : Nat} {A : List Ent} {wr : World} (h : InBoxE p A wr) : InBoxE p A wr.drew := h.on (below_drew' (Below.refl _ _))

/-- A slice of updates that was just laid. -/
theorem slU_laid (w : World) (t : TypeId) (fz : Nat × Nat) (us : List Upd) (cs : Array Value) (b n : Nat) (hb : w.heap.size = b) (hn : us.length = n) (hc : cs = (us.flatMap Upd.cells).toArray) (h0 : n ≤ 1000) : SlU (w.alloc (.cells cs t fz)) (.slice (some ⟨b, 0, none⟩) n n) us := by
  subst hb hn hc
  exact ⟨_, _, rfl, SlAt.new w _ _ _ us (fun x hx => rfl) (by simp), Nat.le_refl _, by omega, fun e => by simp at e⟩
/-- On, of one update, at a leaf that others made. -/
theorem leafOn_next (a : Option Addr) (n c : Nat) (G : List Ent) (us : List Upd) (u : Upd) (w : World) (t : TypeId) (hG : Rising Ent.key G) (hGf : FineE G) (hGl : G.length ≤ 100) (hn : n = (onAll G us).length) (h : BoxE w (.agg #[.slice a n c]) (onAll G us)) (hl : us.length ≤ 1000) (hu : u.Wf) :
    Calls Try.prog 16 #[.agg #[.slice a n c], .slice (some ⟨w.heap.size, 0, none⟩) 1 1] (w.alloc (.cells #[.int .u8 u.kind, .string (S u.key), .string (S u.val), .int .u64 u.delta] t)) fun e w' => (∃ a' c', e = .returned (.agg #[.slice a' (onAll G (us ++ [u])).length c']) ∧ BoxE w' (.agg #[.slice a' (onAll G (us ++ [u])).length c']) (onAll G (us ++ [u]))) ∧ Below w.heap.size w w' := by
  subst hn
  obtain ⟨h1, h2, h3⟩ := onAll_ok G hG hGf us
  have hb : Below w.heap.size w (w.alloc (.cells #[.int .u8 u.kind, .string (S u.key), .string (S u.val), .int .u64 u.delta] t)) := by go_grown
  refine (leafOn_any _ (onAll G us) _ [u] _ (h.kept hb (Nat.le_refl _)) (by omega) h1 h2 (slU_laid w _ _ [u] _ _ 1 rfl rfl rfl (by omega)) (fun x hx => by rw [List.mem_singleton] at hx; rw [hx]; exact hu) (by simp)).mono ?_
  rintro e w' ⟨⟨a', c', he, hv⟩, hb'⟩
  rw [show onAll (onAll G us) [u] = onAll G (us ++ [u]) from (onAll_snoc G us u).symm] at he hv
  exact ⟨⟨a', c', he, hv⟩, hb.trans (hb'.mono (by simp))⟩
/-- List, its length by name. -/
theorem listE_next (a : Option Addr) (n c : Nat) (A : List Ent) (w : World) (hn : n = A.length) (h : BoxE w (.agg #[.slice a n c]) A) (hl : A.length ≤ 1000000) :
    Calls Try.prog 20 #[.agg #[.slice a n c]] w fun e w' => (∃ a' c', e = .returned (.slice a' n c') ∧ w'.ownsRow w.heap.size 54 2 (.slice a' n c') n (cellsE A)) ∧ Below w.heap.size w w' := by
  subst hn
  refine (listE _ A w h hl).mono ?_
  rintro e w' ⟨⟨v', rfl, hown⟩, hb⟩
  obtain ⟨a', c', rfl⟩ := own_form hown
  exact ⟨⟨a', c', rfl, hown⟩, hb⟩

theorem ent_guard (op : BinOp) (x y : Operand) (xs ys : Array Value) (w : World) : (eqGuard op 54 x y (.agg xs) (.agg ys)).run Try.prog w = .ok () w := run_eqGuard_agg w op _ x y xs ys (by kernel_rfl)
theorem ent_under : Try.prog.underlying 54 = some (.struct (Try.prog.fieldsOf 54)) := by kernel_rfl
theorem ent_held : Try.prog.stoodInHeld 54 = false := by kernel_rfl
theorem ent_neq_same (a b : ByteArray) (w : World) : (binOp .neq 54 (.agg #[.string a, .string b]) (.agg #[.string a, .string b])).run Try.prog w = .ok (.bool false) w := by
  rw [run_neq_struct, run_equalIn_agg _ _ _ _ _ ent_under ent_held]
  simp [Program.fieldsOf, Try.underlying54, Try.underlying9, Op.eqFields, go_sem]

theorem SlE.cells2 {w : World} {a : Option Addr} {n c : Nat} {A : List Ent} (h : SlE w (.slice a n c) A) (i : Nat) (hi : i < A.length) :
    ∃ b off, a = some ⟨b, off, none⟩ ∧ b < w.heap.size ∧ w.cell? ⟨b, off + i * 2, none⟩ = some (.string (S A[i].key)) ∧ w.cell? ⟨b, off + i * 2 + 1, none⟩ = some (.string (S A[i].val)) := by
  obtain ⟨ao, c', e, hs, -⟩ := h
  simp only [Value.slice.injEq] at e
  obtain ⟨rfl, rfl, rfl⟩ := e
  obtain ⟨b, off, rfl, hb, hc⟩ := hs.at (by omega)
  obtain ⟨h0, h1⟩ := entCells hc i hi
  exact ⟨b, off, rfl, hb, h0, h1⟩
/-- Two lists of the same entries, at one place of both. -/
theorem pairE_at {w : World} {a a' : Option Addr} {n n' c c' : Nat} {A : List Ent} (h : SlE w (.slice a n c) A) (h' : SlE w (.slice a' n' c') A) (i : Nat) (hi : i < A.length) :
    ∃ b off b' off' u, A[i] = u ∧ a = some ⟨b, off, none⟩ ∧ a' = some ⟨b', off', none⟩ ∧ (w.cell? ⟨b, off + i * 2, none⟩ = some (.string (S u.key)) ∧ w.cell? ⟨b, off + i * 2 + 1, none⟩ = some (.string (S u.val))) ∧
      (w.cell? ⟨b', off' + i * 2, none⟩ = some (.string (S u.key)) ∧ w.cell? ⟨b', off' + i * 2 + 1, none⟩ = some (.string (S u.val))) := by
  obtain ⟨b, off, rfl, -, h1⟩ := h.cells2 i hi
  obtain ⟨b', off', rfl, -, h2⟩ := h'.cells2 i hi
  exact ⟨b, off, b', off', _, rfl, rfl, rfl, h1, h2⟩

/-- The leaf that both begin with. -/
def begE : List Ent := [⟨[97], [49]⟩, ⟨[99], [49, 50, 51, 52, 53, 54, 55, 56]⟩]
def begU : List Upd := [⟨1, [97], [49], 0⟩, ⟨1, [99], [49, 50, 51, 52, 53, 54, 55, 56], 0⟩]
theorem beg_on : onAll [] begU = begE := by rfl
theorem beg_ok : Rising Ent.key begE ∧ FineE begE := by
  have := onAll_ok [] List.Pairwise.nil (fun e he => by simp at he) begU
  rw [beg_on] at this
  exact ⟨this.1, this.2.1⟩
theorem beg_call (w : World) (b : Nat) (h : SlU w (.slice (some ⟨b, 0, none⟩) 2 2) begU) :
    Calls Try.prog 16 #[.agg #[.slice none 0 0], .slice (some ⟨b, 0, none⟩) 2 2] w fun e w' => (∃ a c, e = .returned (.agg #[.slice a begE.length c]) ∧ BoxE w' (.agg #[.slice a begE.length c]) begE) ∧ Below w.heap.size w w' := by
  have := leafOn_any (.agg #[.slice none 0 0]) [] (.slice (some ⟨b, 0, none⟩) 2 2) begU w ⟨_, rfl, SlE.nil w⟩ (by decide) List.Pairwise.nil (fun e he => by simp at he) h (fun u hu => by simp [begU] at hu; rcases hu with rfl | rfl <;> exact ⟨by decide, by decide⟩) (by decide)
  rw [beg_on] at this
  exact this
/-- Whatever turn: the same leaf. -/
theorem turnedE_same (F : List Upd) (t : Nat) (hn : (F.map Upd.key).Nodup) : onAll begE (rotL F t F.length) = onAll begE F := onAll_perm begE beg_ok.1 beg_ok.2 F _ hn (rotL_perm F t)

end Go.Proofs.Ytcjeonamebnpfaa
