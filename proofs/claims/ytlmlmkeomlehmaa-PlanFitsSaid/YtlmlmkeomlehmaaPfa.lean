/-
  PlanFits: what its three loops hold: a node's box, a buffer's and a leaf's.
-/
import Derived.Test.YtlmlmkeomlehmaaPfp
import Derived.Test.YtlmlmkeomlehmaaNdb
namespace Go.Proofs.Ytlmlmkeomlehmaa
open Go.RowKit

theorem SlE.setAt {w : World} {v : Value} {l : List Ent} (h : SlE w v l) {p : Addr} {a : Option Addr} {n c : Nat} (hp : w.cell? p = some (.slice a n c)) (u : Value) : SlE (w.setCell p u) v l := by
  obtain ⟨ao, c', rfl, hs, h1, h2, h3⟩ := h
  exact ⟨ao, c', rfl, hs.setAt hp (fun x _ => by simp [Ent.cells]) u, h1, h2, h3⟩
theorem BoxE.setAt {w : World} {v : Value} {l : List Ent} (h : BoxE w v l) {p : Addr} {a : Option Addr} {n c : Nat} (hp : w.cell? p = some (.slice a n c)) (u : Value) : BoxE (w.setCell p u) v l := by
  obtain ⟨s, rfl, hs⟩ := h
  exact ⟨_, rfl, hs.setAt hp u⟩

/-- The node's box N, the buffer's N + 1, the leaf's N + 2: so many children, messages, entries. -/
structure FitAt (N : Nat) (f : UInt8) (v : List UInt8) (w0 w : World) (m : Nat) (a : Option Addr) (y : Nat) (n : Nat) (b : Option Addr) (x : Nat) (k : Nat) (e : Option Addr) (z : Nat) : Prop where
  low : Below N w0 w
  c0 : w.cell? ⟨N, 0, none⟩ = some (.slice a m y)
  c1 : w.cell? ⟨N, 1, none⟩ = some (.slice none 0 0)
  own : w.ownsRow (N + 3) 100 4 (.slice a m y) m (cellsC (csF f m))
  b0 : w.cell? ⟨N + 1, 0, none⟩ = some (.slice b n x)
  l0 : w.cell? ⟨N + 2, 0, none⟩ = some (.slice e k z)
  fz : ∀ k o, k < 3 → w.frozen? ⟨N + k, o, none⟩ = false
  bu : BoxU w (.agg #[.slice b n x]) (usF f v n)
  le : BoxE w (.agg #[.slice e k z]) (esF f v k)
  sz : N + 2 < w.heap.size
  base : N ≤ w0.heap.size
section
variable {N : Nat} {f : UInt8} {v : List UInt8} {w0 w : World} {m : Nat} {a : Option Addr} {y : Nat} {n : Nat} {b : Option Addr} {x : Nat} {k : Nat} {e : Option Addr} {z : Nat}
theorem FitAt.on {w' : World} (h : FitAt N f v w0 w m a y n b x k e z) (hb : Below w.heap.size w w') : FitAt N f v w0 w' m a y n b x k e z :=
  ⟨h.low.trans (hb.mono (Nat.le_trans (by omega) (Nat.le_of_lt h.sz))), kept_cell hb h.c0, kept_cell hb h.c1, own_below h.own hb, kept_cell hb h.b0, kept_cell hb h.l0, fun k o hk => ((bcell hb).2 _ o (by have := h.sz; omega)).trans (h.fz k o hk), h.bu.kept hb (Nat.le_refl _), h.le.kept hb (Nat.le_refl _), Nat.lt_of_lt_of_le h.sz hb.size, h.base⟩
theorem FitAt.kept {w' : World} {B : Nat} (h : FitAt N f v w0 w m a y n b x k e z) (hb : Below B w w') (hB : w.heap.size ≤ B) : FitAt N f v w0 w' m a y n b x k e z := h.on (hb.mono hB)
/-- What lies below the boxes stays. -/
theorem FitAt.old (h : FitAt N f v w0 w m a y n b x k e z) {p o : Nat} {u : Value} (hp : w0.cell? ⟨p, o, none⟩ = some u) (hN : p < N) : w.cell? ⟨p, o, none⟩ = some u :=
  (h.low.cell (p := ⟨p, o, none⟩) hN).trans hp
/-- The row of children has grown by one, and is stored. -/
theorem FitAt.putC {w' : World} {a' : Option Addr} {y' : Nat} (h : FitAt N f v w0 w m a y n b x k e z) (hg : w.grownBy w' (Value.slice a m y).ownBlock)
    (ho : w'.ownsRow (N + 3) 100 4 (.slice a' (m + 1) y') (m + 1) (cellsC (csF f (m + 1)))) (hbu : BoxU w' (.agg #[.slice b n x]) (usF f v n)) (hle : BoxE w' (.agg #[.slice e k z]) (esF f v k)) :
    FitAt N f v w0 (w'.setCell ⟨N, 0, none⟩ (.slice a' (m + 1) y')) (m + 1) a' y' n b x k e z := by
  have eN : ∀ k, k < 3 → some (N + k) ≠ (Value.slice a m y).ownBlock := fun k hk q => by have := (h.own.lt (N + k) q.symm).1; omega
  have hsz := h.sz
  have n0 := hg.cell h.c0 (eN 0 (by omega))
  have hwz := hg.size
  refine ⟨(below_grown h.low hg (fun k q => by have := (h.own.lt k q).1; omega) (by omega)).setCell (p := ⟨N, 0, none⟩) (Nat.le_refl _) _, World.cell?_setCell_same _ _ _ n0, ?_, ownsRow_setCell_other (a := ⟨N, 0, none⟩) ho (fun q => by have := (ho.lt N q).1; omega) _, ?_, ?_, fun k o hk => ?_, hbu.setAt n0 _, hle.setAt n0 _, by rw [World.size_setCell]; omega, h.base⟩
  · rw [World.cell?_setCell_other _ _ _ _ (addr_ne (Or.inr (by decide)))]; exact hg.cell h.c1 (eN 0 (by omega))
  · rw [World.cell?_setCell_other _ _ _ _ (addr_ne (Or.inl (by omega)))]; exact hg.cell h.b0 (eN 1 (by omega))
  · rw [World.cell?_setCell_other _ _ _ _ (addr_ne (Or.inl (by omega)))]; exact hg.cell h.l0 (eN 2 (by omega))
  · rw [World.frozen?_setCell]; exact (World.frozen?_of_block (hg.block (N + k) (by omega) (eN k hk))).trans (h.fz k o hk)
/-- A buffer of one more is stored. -/
theorem FitAt.putB {b' : Option Addr} {x' n' : Nat} (h : FitAt N f v w0 w m a y n b x k e z) (hbu : BoxU w (.agg #[.slice b' n' x']) (usF f v n')) :
    FitAt N f v w0 (w.setCell ⟨N + 1, 0, none⟩ (.slice b' n' x')) m a y n' b' x' k e z := by
  refine ⟨h.low.setCell (p := ⟨N + 1, 0, none⟩) (Nat.le_succ _) _, ?_, ?_, ownsRow_setCell_other (a := ⟨N + 1, 0, none⟩) h.own (fun q => by have := (h.own.lt (N + 1) q).1; omega) _, World.cell?_setCell_same _ _ _ h.b0, ?_, fun k o hk => ?_, hbu.setAt h.b0 _, h.le.setAt h.b0 _, by rw [World.size_setCell]; exact h.sz, h.base⟩
  · rw [World.cell?_setCell_other _ _ _ _ (addr_ne (Or.inl (by omega)))]; exact h.c0
  · rw [World.cell?_setCell_other _ _ _ _ (addr_ne (Or.inl (by omega)))]; exact h.c1
  · rw [World.cell?_setCell_other _ _ _ _ (addr_ne (Or.inl (by omega)))]; exact h.l0
  · rw [World.frozen?_setCell]; exact h.fz k o hk
/-- A leaf of one more is stored. -/
theorem FitAt.putL {e' : Option Addr} {z' k' : Nat} (h : FitAt N f v w0 w m a y n b x k e z) (hle : BoxE w (.agg #[.slice e' k' z']) (esF f v k')) :
    FitAt N f v w0 (w.setCell ⟨N + 2, 0, none⟩ (.slice e' k' z')) m a y n b x k' e' z' := by
  refine ⟨h.low.setCell (p := ⟨N + 2, 0, none⟩) (by show N ≤ N + 2; omega) _, ?_, ?_, ownsRow_setCell_other (a := ⟨N + 2, 0, none⟩) h.own (fun q => by have := (h.own.lt (N + 2) q).1; omega) _, ?_, World.cell?_setCell_same _ _ _ h.l0, fun k o hk => ?_, h.bu.setAt h.l0 _, hle.setAt h.l0 _, by rw [World.size_setCell]; exact h.sz, h.base⟩
  · rw [World.cell?_setCell_other _ _ _ _ (addr_ne (Or.inl (by omega)))]; exact h.c0
  · rw [World.cell?_setCell_other _ _ _ _ (addr_ne (Or.inl (by omega)))]; exact h.c1
  · rw [World.cell?_setCell_other _ _ _ _ (addr_ne (Or.inl (by omega)))]; exact h.b0
  · rw [World.frozen?_setCell]; exact h.fz k o hk
end

/-- The three boxes, as they are laid. -/
theorem FitAt.new (f : UInt8) (v : List UInt8) (w : World) : FitAt w.heap.size f v w (((w.alloc (.cells #[.slice none 0 0, .slice none 0 0] 31)).alloc (.cells #[.slice none 0 0] 29)).alloc (.cells #[.slice none 0 0] 108)) 0 none 0 0 none 0 0 none 0 := by
  refine ⟨by go_grown, ?_, ?_, ?_, ?_, ?_, fun k o hk => ?_, ⟨_, rfl, SlU.nil _⟩, ⟨_, rfl, SlE.nil _⟩, by simp, Nat.le_refl _⟩
  · rw [World.cell?_alloc_past _ _ _ (by simp <;> omega), World.cell?_alloc_past _ _ _ (by simp), World.cell?_alloc_at _ _ _ _ rfl]; rfl
  · rw [World.cell?_alloc_past _ _ _ (by simp <;> omega), World.cell?_alloc_past _ _ _ (by simp), World.cell?_alloc_at _ _ _ _ rfl]; rfl
  · exact World.ownsRow_nil _ _ _ _
  · rw [World.cell?_alloc_past _ _ _ (by simp), World.cell?_alloc_at _ _ _ _ (by simp)]; rfl
  · rw [World.cell?_alloc_at _ _ _ _ (by simp)]; rfl
  · rcases k with _ | _ | _ | k
    · rw [Nat.add_zero, World.frozen?_alloc_past _ _ _ (by simp <;> omega), World.frozen?_alloc_past _ _ _ (by simp), World.frozen?_alloc_at _ _ _ _ rfl]
    · rw [World.frozen?_alloc_past _ _ _ (by simp), World.frozen?_alloc_at _ _ _ _ (by simp)]
    · rw [World.frozen?_alloc_at _ _ _ _ (by simp)]
    · omega

theorem BoxU.len {w : World} {a : Option Addr} {n c : Nat} {l : List Upd} (h : BoxU w (.agg #[.slice a n c]) l) : n = l.length := by
  obtain ⟨s, e, ao, c', e2, -⟩ := h
  simp only [Value.agg.injEq, Array.mk.injEq, List.cons.injEq, and_true] at e
  subst e
  simp only [Value.slice.injEq] at e2
  exact e2.2.1
/-- With, of the next message. -/
theorem fitWith (f : UInt8) (v : List UInt8) (hv : v.length ≤ 32) (b : Option Addr) (n x : Nat) (w : World) (hn : n < 100) (h : BoxU w (.agg #[.slice b n x]) (usF f v n)) :
    Calls Try.prog 25 #[.agg #[.slice b n x], .agg #[.int .u8 1, .string (S (keyF f n)), .string (S v), .int .u64 0]] w fun e w' => (∃ b' x', e = .returned (.agg #[.slice b' (n + 1) x']) ∧ BoxU w' (.agg #[.slice b' (n + 1) x']) (usF f v (n + 1))) ∧ Below w.heap.size w w' := by
  have hw := with_any (.agg #[.slice b n x]) (usF f v n) 1 (keyF f n) v 0 w h (by rw [usF_len]; omega) (usF_rising f v n (by omega)) (usF_fine hv) (by omega) (by omega)
  rw [usF_with (by omega)] at hw
  refine hw.mono ?_
  rintro e w' ⟨⟨v', rfl, hb⟩, hB⟩
  obtain ⟨s, rfl, ao, c', rfl, hr⟩ := id hb
  rw [usF_len] at hb ⊢
  exact ⟨⟨_, _, rfl, hb⟩, hB⟩
/-- On, of the next message, as a slice of its own. -/
theorem fitOn (f : UInt8) (v : List UInt8) (hv : v.length ≤ 32) (b : Option Addr) (n x : Nat) (w : World) (hn : n < 100) (h : BoxE w (.agg #[.slice b n x]) (esF f v n)) (t : TypeId) :
    Calls Try.prog 47 #[.agg #[.slice b n x], .slice (some ⟨w.heap.size, 0, none⟩) 1 1] (w.alloc (.cells #[.int .u8 1, .string (S (keyF f n)), .string (S v), .int .u64 0] t)) fun e w' => (∃ b' x', e = .returned (.agg #[.slice b' (n + 1) x']) ∧ BoxE w' (.agg #[.slice b' (n + 1) x']) (esF f v (n + 1))) ∧ Below w.heap.size w w' := by
  have hb : Below w.heap.size w (w.alloc (.cells #[.int .u8 1, .string (S (keyF f n)), .string (S v), .int .u64 0] t)) := by go_grown
  have hs : SlU (w.alloc (.cells #[.int .u8 1, .string (S (keyF f n)), .string (S v), .int .u64 0] t)) (.slice (some ⟨w.heap.size, 0, none⟩) 1 1) [⟨1, keyF f n, v, 0⟩] :=
    ⟨_, _, rfl, SlAt.new w _ _ _ [(⟨1, keyF f n, v, 0⟩ : Upd)] (fun x hx => rfl) (by simp; rfl), Nat.le_refl _, by show (1 : Int) ≤ _; omega, fun e => by simp at e⟩
  have hw := leafOn_any (.agg #[.slice b n x]) (esF f v n) _ [⟨1, keyF f n, v, 0⟩] _ (h.kept hb (Nat.le_refl _)) (by rw [esF_len]; omega) (esF_rising f v n (by omega)) (esF_fine hv) hs (fun u hu => by rw [List.mem_singleton] at hu; rw [hu]; exact (putF_okay f n hv).wf) (by simp)
  rw [esF_on hv (by omega), esF_len] at hw
  refine hw.mono ?_
  rintro e w' ⟨⟨b', x', rfl, hb'⟩, hB⟩
  exact ⟨⟨_, _, rfl, hb'⟩, hb.trans (hB.mono (by simp))⟩
theorem lenE_next (a : Option Addr) (n c : Nat) (w : World) :
    Calls Try.prog 52 #[.agg #[.slice a n c]] w fun e w' => e = .returned (.int .i64 n) ∧ Below w.heap.size w w' := by
  go_enter Try.func52, Try.ntmps52
  go_wp2
  go_ret
  exact ⟨rfl, by go_grown⟩
theorem fitRoom (n : Int) (w : World) (h1 : 128 ≤ n) (h2 : n ≤ 1024) :
    Calls Try.prog 49 #[.int .i64 n] w fun e w' => e = .returned (.int .i64 (n - 24)) ∧ Below w.heap.size w w' := by
  have h := room_any n w
  rw [show PlanL.room n = n - 24 by simp [PlanL.room, h1, h2]] at h
  refine h.mono ?_
  rintro e w' ⟨rfl, rfl⟩
  exact ⟨rfl, Below.refl _ _⟩
theorem fitNodeBytes (F B L : Nat) (w : World) (h1 : 3 ≤ F) (h2 : F ≤ 16) (h3 : F ≤ B) (h4 : B ≤ 64) (h5 : 2 ≤ L) (h6 : L ≤ 64) :
    Calls Try.prog 50 #[.agg #[.int .i64 F, .int .i64 B, .int .i64 L]] w fun e w' => e = .returned (.int .i64 (1 + 33 * (F : Int) + 51 * (B : Int))) ∧ Below w.heap.size w w' := by
  have h := nodeBytes_any F B L w
  rwa [PlanL.nodeBytes, if_pos ((PlanL.right_iff _ _ _).2 (by omega))] at h
theorem fitLeafBytes (F B L : Nat) (w : World) (h1 : 3 ≤ F) (h2 : F ≤ 16) (h3 : F ≤ B) (h4 : B ≤ 64) (h5 : 2 ≤ L) (h6 : L ≤ 64) :
    Calls Try.prog 51 #[.agg #[.int .i64 F, .int .i64 B, .int .i64 L]] w fun e w' => e = .returned (.int .i64 (50 * (L : Int))) ∧ Below w.heap.size w w' := by
  have h := leafBytes_any F B L w
  rwa [PlanL.leafBytes, if_pos ((PlanL.right_iff _ _ _).2 (by omega))] at h
/-- The node's text. -/
theorem fitNode (f : UInt8) (v : List UInt8) (hv : v.length ≤ 32) (a b : Option Addr) (F B y x : Nat) (w : World) (h1 : 3 ≤ F) (h2 : F ≤ 16) (h4 : B ≤ 64) (hc : w.ownsRow 0 100 4 (.slice a F y) F (cellsC (csF f F))) (h : BoxU w (.agg #[.slice b B x]) (usF f v B)) :
    Calls Try.prog 14 #[.agg #[.slice a F y, .slice b B x]] w fun e w' => (∃ s, e = .returned (.tuple #[.string (S s), .int .i64 0]) ∧ s.length ≤ 1 + 33 * F + 51 * B) ∧ Below w.heap.size w w' := by
  obtain ⟨s, e, hs⟩ := h
  simp only [Value.agg.injEq, Array.mk.injEq, List.cons.injEq, and_true] at e
  subst e
  have hN : NodeAt w (.agg #[.slice a F y, .slice b B x]) (csF f F) (usF f v B) := NodeAt.mk' (slC_row hc).2 hs
  refine (nodeText_ok _ (csF f F) (usF f v B) w hN ⟨by rw [csF_len]; omega, by rw [usF_len]; omega, fun c hc => ?_, fun c hc => ?_, fun u hu => (usF_okay hv u hu).wf⟩ ⟨csF_right f (by omega) h2, by rw [usF_len]; omega, usF_okay hv⟩).mono ?_
  · have := (csF_right f (n := F) (by omega) h2).ok c hc
    exact ⟨by have := this.addr; omega, this.gen, this.sum⟩
  · have := ((csF_right f (n := F) (by omega) h2).ok c hc).low
    omega
  · rintro e w' ⟨rfl, hB⟩
    exact ⟨⟨_, rfl, textF_len hv F B⟩, hB⟩
/-- The leaf's text. -/
theorem fitLeaf (f : UInt8) (v : List UInt8) (hv : v.length ≤ 32) (b : Option Addr) (L x : Nat) (w : World) (h6 : L ≤ 64) (h : BoxE w (.agg #[.slice b L x]) (esF f v L)) :
    Calls Try.prog 48 #[.agg #[.slice b L x]] w fun e w' => (∃ s, e = .returned (.tuple #[.string (S s), .int .i64 0]) ∧ s.length ≤ 50 * L) ∧ Below w.heap.size w w' := by
  refine (leafText_any b L x (esF f v L) w (by rw [esF_len]) h (by rw [esF_len]; omega) (esF_fine hv)).mono ?_
  rintro e w' ⟨rfl, hB⟩
  exact ⟨⟨_, rfl, esF_text hv L⟩, hB⟩

end Go.Proofs.Ytlmlmkeomlehmaa
