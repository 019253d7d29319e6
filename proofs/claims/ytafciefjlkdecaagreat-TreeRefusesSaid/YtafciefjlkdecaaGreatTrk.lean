/-
  What stays where only some blocks turn: rows that hold texts.
-/
import Derived.Test.YtafciefjlkdecaaGreatTrc
import Derived.Test.YtafciefjlkdecaaGreatNdc
namespace Go.Proofs.YtafciefjlkdecaaGreat
open Go.RowKit

/-- All blocks but those of S are as they were. -/
structure Keep (S : Nat → Prop) (w w' : World) : Prop where
  os : w'.os = w.os
  tape : w'.tape = w.tape
  output : w'.output = w.output
  size : w.heap.size ≤ w'.heap.size
  block : ∀ b, b < w.heap.size → ¬ S b → w'.heap[b]? = w.heap[b]?
theorem Keep.of_below {S : Nat → Prop} {w w' : World} (h : Below w.heap.size w w') : Keep S w w' := ⟨h.os, h.tape, h.output, h.size, fun b hb _ => h.block b hb⟩
theorem Keep.refl (S : Nat → Prop) (w : World) : Keep S w w := .of_below (Below.refl _ _)
theorem Keep.trans {S T : Nat → Prop} {a b c : World} (h : Keep S a b) (k : Keep T b c) (hT : ∀ x, T x → S x ∨ a.heap.size ≤ x) : Keep S a c :=
  ⟨k.os.trans h.os, k.tape.trans h.tape, k.output.trans h.output, Nat.le_trans h.size k.size, fun x hx hs => (k.block x (Nat.lt_of_lt_of_le hx h.size) (fun ht => (hT x ht).elim hs (fun q => by omega))).trans (h.block x hx hs)⟩
theorem Keep.trans' {S : Nat → Prop} {a b c : World} (h : Keep S a b) (k : Keep S b c) : Keep S a c := h.trans k fun _ hx => Or.inl hx
theorem Keep.on {S : Nat → Prop} {a b c : World} (h : Keep S a b) (k : Below b.heap.size b c) : Keep S a c := h.trans' (.of_below k)
theorem Keep.setCell {S : Nat → Prop} {a b : World} (h : Keep S a b) (p : Addr) (hp : S p.block ∨ a.heap.size ≤ p.block) (v : Value) : Keep S a (b.setCell p v) :=
  ⟨h.os, h.tape, h.output, by rw [World.size_setCell]; exact h.size, fun x hx hs => (Go.heap_setCell_other b p x v (fun e => by subst e; exact hp.elim hs (fun q => by omega))).trans (h.block x hx hs)⟩
theorem Keep.row {S : Nat → Prop} {a b : World} {E : TypeId} {g : Nat} {cur : List Value} (h : Keep S a b) (hr : RowIs a E g cur) (hs : ¬ S g) : RowIs b E g cur := (h.block g hr.lt hs).trans hr
theorem Keep.vx {S : Nat → Prop} {a b : World} {g : Nat} {kn : Bool} {pa : Int} {pg ps : Nat} {ld : Bool} {lf cs us ks : Value} (h : Keep S a b) (hv : VxAt a g kn pa pg ps ld lf cs us ks) (hs : ¬ S g) : VxAt b g kn pa pg ps ld lf cs us ks := ⟨h.row hv.row hs⟩
theorem Keep.below {S : Nat → Prop} {a b : World} {N : Nat} (h : Keep S a b) (hN : N ≤ a.heap.size) (hS : ∀ x, S x → N ≤ x) : Below N a b :=
  ⟨h.os, h.tape, h.output, h.size, fun k hk => h.block k (by omega) (fun q => by have := hS k q; omega)⟩
theorem Keep.mono {S T : Nat → Prop} {a b : World} (h : Keep S a b) (hST : ∀ x, S x → T x) : Keep T a b := ⟨h.os, h.tape, h.output, h.size, fun x hx ht => h.block x hx (fun q => ht (hST x q))⟩
theorem Keep.grown {S : Nat → Prop} {a b c : World} {r : Option Nat} (h : Keep S a b) (hg : b.grownBy c r) (hr : ∀ k, r = some k → S k ∨ a.heap.size ≤ k) : Keep S a c :=
  ⟨hg.os.trans h.os, hg.tape.trans h.tape, hg.output.trans h.output, Nat.le_trans h.size hg.size, fun x hx hs => by
    rw [hg.block x (Nat.lt_of_lt_of_le hx h.size) (fun e => (hr x e.symm).elim hs (fun q => by omega))]
    exact h.block x hx hs⟩

/-- A block without a text. -/
def NoStr (w : World) (b : Nat) : Prop := ∀ o s, w.cell? ⟨b, o, none⟩ ≠ some (.string s)
theorem RowIs.noStr {w : World} {E : TypeId} {g : Nat} {cur : List Value} (h : RowIs w E g cur) (hc : ∀ s, Value.string s ∉ cur) : NoStr w g := fun o s e => by
  rw [h.cell] at e
  exact hc s (List.mem_of_getElem? e)
theorem SlAt.keep {α : Type} {enc : α → List Value} {k : Nat} {w w' : World} {ao : Option Addr} {l : List α} {S : Nat → Prop} (h : SlAt enc k w ao l) (hk : Keep S w w') (hS : ∀ b, S b → NoStr w b) (henc : ∀ x : α, ∃ (j : Nat) (s : ByteArray), (enc x)[j]? = some (Value.string s)) : SlAt enc k w' ao l := by
  rcases h with rfl | ⟨b, off, rfl, hb, hc⟩
  · exact Or.inl rfl
  · by_cases hl : l = []
    · exact Or.inl hl
    · have hl0 : 0 < l.length := List.length_pos_iff.2 hl
      obtain ⟨j, s, hj⟩ := henc l[0]
      have hnS : ¬ S b := fun q => hS b q _ s (hc 0 hl0 j _ hj)
      refine Or.inr ⟨b, off, rfl, Nat.lt_of_lt_of_le hb hk.size, fun i hi j x hx => ?_⟩
      rw [World.cell?_of_block (hk.block b hb hnS)]
      exact hc i hi j x hx
theorem SlC.keep {w w' : World} {v : Value} {l : List Chd} {S : Nat → Prop} (h : SlC w v l) (hk : Keep S w w') (hS : ∀ b, S b → NoStr w b) : SlC w' v l := by
  obtain ⟨ao, c, rfl, hs, h2⟩ := h
  exact ⟨ao, c, rfl, hs.keep hk hS (fun x => ⟨0, _, rfl⟩), h2⟩
theorem SlU.keep {w w' : World} {v : Value} {l : List Upd} {S : Nat → Prop} (h : SlU w v l) (hk : Keep S w w') (hS : ∀ b, S b → NoStr w b) : SlU w' v l := by
  obtain ⟨ao, c, rfl, hs, h2⟩ := h
  exact ⟨ao, c, rfl, hs.keep hk hS (fun x => ⟨1, _, rfl⟩), h2⟩
theorem SlE.keep {w w' : World} {v : Value} {l : List Ent} {S : Nat → Prop} (h : SlE w v l) (hk : Keep S w w') (hS : ∀ b, S b → NoStr w b) : SlE w' v l := by
  obtain ⟨ao, c, rfl, hs, h2⟩ := h
  exact ⟨ao, c, rfl, hs.keep hk hS (fun x => ⟨0, _, rfl⟩), h2⟩
theorem BoxU.keep {w w' : World} {v : Value} {l : List Upd} {S : Nat → Prop} (h : BoxU w v l) (hk : Keep S w w') (hS : ∀ b, S b → NoStr w b) : BoxU w' v l := by
  obtain ⟨s, rfl, hs⟩ := h
  exact ⟨s, rfl, hs.keep hk hS⟩
theorem BoxE.keep {w w' : World} {v : Value} {l : List Ent} {S : Nat → Prop} (h : BoxE w v l) (hk : Keep S w w') (hS : ∀ b, S b → NoStr w b) : BoxE w' v l := by
  obtain ⟨s, rfl, hs⟩ := h
  exact ⟨s, rfl, hs.keep hk hS⟩
theorem NodeAt.keep {w w' : World} {v : Value} {cs : List Chd} {us : List Upd} {S : Nat → Prop} (h : NodeAt w v cs us) (hk : Keep S w w') (hS : ∀ b, S b → NoStr w b) : NodeAt w' v cs us := by
  obtain ⟨a, b, x, y, rfl, h1, h2⟩ := h
  exact ⟨a, b, x, y, rfl, h1.keep hk hS, h2.keep hk hS⟩
theorem VxAt.noStr {w : World} {b : Nat} {kn : Bool} {pa : Int} {pg ps : Nat} {ld : Bool} {a1 a2 a3 a4 : Option Addr} {n1 n2 n3 n4 c1 c2 c3 c4 : Nat} (h : VxAt w b kn pa pg ps ld (.slice a1 n1 c1) (.slice a2 n2 c2) (.slice a3 n3 c3) (.slice a4 n4 c4)) : NoStr w b :=
  h.row.noStr fun s => by simp [vxCells]
theorem TrAt.noStr {w : World} {b : Nat} {F B L : Int} {fn : Fn} {xs ys : Array Value} {root : Nat} {h' : Int} {a : Option Addr} {n c : Nat} {fl le : Int} (h : TrAt w b F B L (.func fn xs ys) root h' (.slice a n c) fl le) : NoStr w b :=
  h.row.noStr fun s => by simp [trCells]

theorem NodeAt.parts {w : World} {x y : Value} {cs : List Chd} {us : List Upd} (h : NodeAt w (.agg #[x, y]) cs us) : SlC w x cs ∧ SlU w y us := by
  obtain ⟨a, b, u, v, he, h1, h2⟩ := h
  simp only [Value.agg.injEq, Array.mk.injEq, List.cons.injEq, and_true] at he
  obtain ⟨rfl, rfl⟩ := he
  exact ⟨h1, h2⟩
theorem own_rowIs {w : World} {B : Nat} {E : TypeId} {k : Nat} {v : Value} {n : Nat} {xs : List Value} (h : w.ownsRow B E k v n xs) : ∀ g, v.ownBlock = some g → ∃ cur, RowIs w E g cur := fun g e => by
  rcases ownsRow_open h with ⟨rfl, -, -⟩ | ⟨g', cap, cur, rfl, -, hr, -⟩
  · simp [Value.ownBlock] at e
  · simp only [Value.ownBlock, Option.some.injEq] at e
    subst e
    exact ⟨cur, hr⟩

theorem own_keep {w w' : World} {B : Nat} {E : TypeId} {k : Nat} {v : Value} {n : Nat} {xs : List Value} {S : Nat → Prop} (h : w.ownsRow B E k v n xs) (hk : Keep S w w') (hS : ∀ g, v.ownBlock = some g → ¬ S g) : w'.ownsRow B E k v n xs := by
  rcases ownsRow_open h with ⟨rfl, rfl, rfl⟩ | ⟨g, cap, cur, rfl, h1, hr, h3, h4, h5, h6⟩
  · exact World.ownsRow_nil _ _ _ _
  · exact ownsRow_shut h1 (hk.row hr (hS g rfl)) h3 h4 h5 h6

end Go.Proofs.YtafciefjlkdecaaGreat
