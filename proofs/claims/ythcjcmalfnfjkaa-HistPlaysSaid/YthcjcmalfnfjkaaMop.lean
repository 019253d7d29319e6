/-
  A map from texts to texts, told as entries by rising keys: plain laws, and the operations' own.
-/
import Derived.Test.YthcjcmalfnfjkaaZhb
import Derived.Maps.StringElems
import Derived.Sort.KeysCollected
import Derived.Sort.Walk0
namespace Go.Proofs.Ythcjcmalfnfjkaa
open Go.RowKit Go.Maps Go.WideShapes
set_option linter.unusedVariables false

def litE (e : Ent) : Lit × DataW Unit := (.string e.key, .lit (.string e.val))
/-- The datum D is a map of just the entries l, in whatever order. -/
def Says (D : DataW Unit) (l : List Ent) : Prop := ∃ es, D = .map es ∧ es.Perm (l.map litE)
theorem Says.empty : Says (.map []) [] := ⟨[], rfl, List.Perm.nil⟩
theorem Says.size {D : DataW Unit} {l : List Ent} (h : Says D l) : Maps.size D = l.length := by
  obtain ⟨es, rfl, hp⟩ := h
  rw [Maps.size_eq, hp.length_eq]; simp
theorem litE_same (e : Ent) (k : List UInt8) : (litE e).1.sameKey (.string k) = (e.key == k) := rfl
theorem Says.has {D : DataW Unit} {l : List Ent} (h : Says D l) (k : List UInt8) : Maps.has D (.string k) = hasKey Ent.key l k := by
  obtain ⟨es, rfl, hp⟩ := h
  rw [Maps.has_eq, hp.any_eq]
  unfold hasKey
  rw [List.any_map]
  rfl
theorem Says.at {D : DataW Unit} {l : List Ent} (h : Says D l) (hr : Rising Ent.key l) (k : List UInt8) (zd : DataW Unit) : D.atKey (.string k) zd = match lookE l k with | some v => .lit (.string v) | none => zd := by
  cases hl : lookE l k with
  | none =>
    have hno : hasKey Ent.key l k = false := by
      cases hh : hasKey Ent.key l k with
      | false => rfl
      | true =>
        obtain ⟨e, he, hk⟩ := hasKey_iff.1 hh
        have := lookE_mem hr e he
        rw [hk, hl] at this; exact absurd this (by simp)
    have := h.has k
    rw [hno] at this
    exact Maps.atKey_of_not_has this zd
  | some v =>
    have hm := mem_lookE hl
    obtain ⟨es, rfl, hp⟩ := h
    have hin : litE ⟨k, v⟩ ∈ es := hp.mem_iff.2 (List.mem_map_of_mem hm)
    have hsome : (es.find? (fun p => p.1.sameKey (.string k))).isSome = true := List.find?_isSome.2 ⟨_, hin, by rw [litE_same]; simp⟩
    obtain ⟨x, hx⟩ := Option.isSome_iff_exists.1 hsome
    have hxm := List.mem_of_find?_eq_some hx
    have hxk := List.find?_some hx
    obtain ⟨e, he, rfl⟩ := List.mem_map.1 (hp.mem_iff.1 hxm)
    rw [litE_same] at hxk
    have hxk' : e.key = k := by simpa using hxk
    have hv := lookE_mem hr e he
    rw [hxk', hl] at hv
    have : e.val = v := by simpa using hv.symm
    have h9 : (DataW.map es).atKey (.string k) zd = (litE e).2 := by
      unfold DataW.atKey
      dsimp only
      rw [hx]
    rw [h9]
    simp [litE, this]
theorem insert_perm (x : Lit × DataW Unit) : ∀ l : List (Lit × DataW Unit), (DataW.insert x l).Perm (x :: l)
  | [] => by simp [DataW.insert]
  | y :: r => by
    unfold DataW.insert
    split
    · exact List.Perm.refl _
    · exact ((insert_perm x r).cons y).trans (List.Perm.swap x y r)
theorem filter_lits (l : List Ent) (k : List UInt8) : (l.map litE).filter (fun p => !p.1.sameKey (.string k)) = (l.filter (fun e => e.key != k)).map litE := by
  rw [List.filter_map]
  rfl
theorem Says.put {D : DataW Unit} {l l' : List Ent} (h : Says D l) (k v : List UInt8) (hp : l'.Perm (⟨k, v⟩ :: l.filter (fun e => e.key != k))) : Says (D.put (.string k) (.lit (.string v))) l' := by
  obtain ⟨es, rfl, he⟩ := h
  refine ⟨_, rfl, ?_⟩
  refine (insert_perm _ _).trans ?_
  have h1 : (es.filter (fun p => !p.1.sameKey (.string k))).Perm ((l.filter (fun e => e.key != k)).map litE) := by
    rw [← filter_lits]; exact he.filter _
  exact (h1.cons _).trans (hp.map litE).symm
theorem Says.del {D : DataW Unit} {l l' : List Ent} (h : Says D l) (k : List UInt8) (hp : l'.Perm (l.filter (fun e => e.key != k))) : Says (D.del (.string k)) l' := by
  obtain ⟨es, rfl, he⟩ := h
  refine ⟨_, rfl, ?_⟩
  have h1 : (es.filter (fun p => !p.1.sameKey (.string k))).Perm ((l.filter (fun e => e.key != k)).map litE) := by
    rw [← filter_lits]; exact he.filter _
  exact h1.trans (hp.map litE).symm
theorem bl_iff (a b : List UInt8) : bl a b = true ↔ a < b := by
  show Op.bytesLess a b = true ↔ _
  rw [bytesLess_eq]; simp
/-- The keys, sorted. -/
theorem Says.sorted {D : DataW Unit} {l : List Ent} (h : Says D l) (hr : Rising Ent.key l) {ss : List (List UInt8)} (hs : ss.Perm (strKeys D)) : ss.mergeSort (fun x y => decide (x ≤ y)) = l.map Ent.key := by
  obtain ⟨es, rfl, he⟩ := h
  have h1 : (strKeys (.map es)).Perm (l.map Ent.key) := by
    show (es.map fun p => strOf p.1).Perm _
    have := he.map (fun p => strOf p.1)
    rw [List.map_map] at this
    exact this
  have h2 : ss.mergeSort leB = (l.map Ent.key).mergeSort leB := mergeSort_of_perm (hs.trans h1)
  show ss.mergeSort leB = _
  rw [h2]
  refine List.mergeSort_of_pairwise ?_
  refine List.pairwise_map.2 (hr.imp fun {a b} hab => ?_)
  simp only [leB, decide_eq_true_eq]
  exact List.le_of_lt ((bl_iff _ _).1 hab)
/-- What an update that may be makes of entries, told without their order. -/
theorem onE_perm {l : List Ent} (hr : Rising Ent.key l) (u : Upd) (hc : u.check = 0) : (onE l u).Perm (if (newE l u).2 then ⟨u.key, (newE l u).1⟩ :: l.filter (fun e => e.key != u.key) else l.filter (fun e => e.key != u.key)) := by
  rw [← refOut_is hr u hc]
  unfold refOut
  cases hn : (newE l u).2 with
  | false =>
    simp only [Bool.not_false, refFold_done, if_true, List.nil_append]
    simp
  | true =>
    simp only [Bool.not_true, refFold_open _ l [] hr]
    split
    · simp only [if_true, List.nil_append]
      rename_i hlt
      have h3 : (l.take (below Ent.key l u.key)).filter (fun e => e.key != u.key) = l.take (below Ent.key l u.key) := by
        refine filter_none fun e he => ?_
        obtain ⟨i, hi, rfl⟩ := List.mem_iff_getElem.1 he
        rw [List.getElem_take]
        have := (hr.below u.key i (by simp at hi; omega)).2 (by simp at hi; omega)
        exact bl_ne this
      have h4 : l.filter (fun e => e.key != u.key) = l.take (below Ent.key l u.key) ++ (l.drop (below Ent.key l u.key)).filter (fun e => e.key != u.key) := by
        conv => lhs; rw [← List.take_append_drop (below Ent.key l u.key) l]
        rw [List.filter_append, h3]
      rw [h4]
      exact List.perm_middle
    · rename_i hlt
      have h5 : l.filter (fun e => e.key != u.key) = l := by
        refine filter_none fun e he => ?_
        obtain ⟨i, hi, rfl⟩ := List.mem_iff_getElem.1 he
        have := (hr.below u.key i hi).2 (by omega)
        exact bl_ne this
      rw [h5]
      simp only [List.nil_append, Bool.false_eq_true, if_false, if_true]
      exact List.perm_append_comm

/-! ### a map's block -/
theorem lawS : Keyed Try.prog 9 := string_keyed Try.underlying9
theorem under_M : Try.prog.underlying 98 = some (.map 9 9) := Try.underlying98
theorem zeroS (w : World) : (zeroValue 9).run Try.prog w = .ok (.string ByteArray.empty) w := by kernel_rfl
theorem keyS (k : List UInt8) (hk : k.length ≤ 1000000) : keyOf Try.prog 9 (.string (S k)) = some (.string k) := by
  have := WideMaps.keyOf_string_mk Try.underlying9 (s := S k) (by rw [S_size]; unfold maxLen; omega)
  simpa [S] using this
theorem elemS (v : List UInt8) (hv : v.length ≤ 1000000) : plainElem (H := Unit) Try.prog 9 (.string (S v)) = some (.lit (.string v), []) := by
  have := plainElem_string (H := Unit) (P := Try.prog) Try.underlying9 (s := S v) (by rw [S_size]; unfold maxLen; omega)
  simpa [S] using this
/-- Block b is a map of just the entries l. -/
structure MapIs (w : World) (b : Nat) (l : List Ent) : Prop where
  own : ∃ D, w.ownsMap Try.prog 9 (plainElem Try.prog 9) b l.length D ∧ Says D l
  rise : Rising Ent.key l
  fine : FineE l
  len : l.length ≤ 1000000
theorem MapIs.lt {w : World} {b : Nat} {l : List Ent} (h : MapIs w b l) : b < w.heap.size := let ⟨_, h1, _⟩ := h.own; h1.lt
theorem MapIs.kept {w w' : World} {b : Nat} {l : List Ent} (h : MapIs w b l) {row : Option Nat} (hg : w.grownBy w' row) (hne : some b ≠ row) : MapIs w' b l :=
  ⟨let ⟨D, h1, h2⟩ := h.own; ⟨D, h1.kept hg hne, h2⟩, h.rise, h.fine, h.len⟩
theorem MapIs.below {w w' : World} {b : Nat} {l : List Ent} (h : MapIs w b l) (hb : Below w.heap.size w w') : MapIs w' b l :=
  h.kept (row := none) ⟨hb.os, hb.tape, hb.output, hb.size, fun i hi _ => hb.block i hi⟩ (by simp)
theorem MapIs.setCell {w : World} {b : Nat} {l : List Ent} (h : MapIs w b l) {a : Addr} (ha : b ≠ a.block) (u : Value) : MapIs (w.setCell a u) b l :=
  ⟨let ⟨D, h1, h2⟩ := h.own; ⟨D, h1.setCell ha u, h2⟩, h.rise, h.fine, h.len⟩
/-- The block says how many entries there are: the bound may be drawn tight. -/
theorem owns_tight {w : World} {b n : Nat} {D : DataW Unit} (h : w.ownsMap Try.prog 9 (plainElem Try.prog 9) b n D) {l : List Ent} (hs : Says D l) : w.ownsMap Try.prog 9 (plainElem Try.prog 9) b l.length D := by
  have hz := hs.size
  obtain ⟨es, clock, hb, F, _, hD⟩ := h
  refine ⟨es, clock, hb, F, ?_, hD⟩
  rw [← hz, hD]
  simp [Maps.size, DataW.length_sorted]
theorem MapIs.look {w : World} {b : Nat} {l : List Ent} (h : MapIs w b l) (k : List UInt8) (hk : k.length ≤ 1000000) :
    (Instr.lookup 98 (.map (some b)) (.string (S k)) true).run Try.prog w = .ok (.tuple #[.string (S ((lookE l k).getD [])), .bool (hasKey Ent.key l k)]) w := by
  obtain ⟨D, h1, h2⟩ := h.own
  obtain ⟨v, ps, hrun, hv⟩ := h1.look_ok lawS under_M (zeroS w) (plainElem_string (H := Unit) (P := Try.prog) Try.underlying9 (s := ByteArray.empty) (by unfold maxLen; decide)) (keyS k hk)
  rw [h2.has k] at hrun
  rw [h2.at h.rise k] at hv
  obtain ⟨s, rfl, hz, -⟩ := plainElem_string_inv Try.underlying9 hv
  rw [hrun]
  have e : s = S ((lookE l k).getD []) := by
    cases hl : lookE l k with
    | none =>
      rw [hl] at hz
      have h1 : s.data.toList = [] := by simpa using (congrArg Prod.fst hz).symm
      apply ByteArray.ext; simp [S]; exact Array.toList_inj.1 (by simpa using h1)
    | some y =>
      rw [hl] at hz
      have h1 : s.data.toList = y := by simpa using (congrArg Prod.fst hz).symm
      apply ByteArray.ext; simp [S]; exact Array.toList_inj.1 (by simpa using h1)
  rw [e]
theorem MapIs.look1 {w : World} {b : Nat} {l : List Ent} (h : MapIs w b l) (k v : List UInt8) (hk : k.length ≤ 1000000) (hv : lookE l k = some v) :
    (Instr.lookup 98 (.map (some b)) (.string (S k)) false).run Try.prog w = .ok (.string (S v)) w := by
  obtain ⟨D, h1, h2⟩ := h.own
  obtain ⟨s, ps, hrun, hs⟩ := h1.lookup lawS under_M (zeroS w) (plainElem_string (H := Unit) (P := Try.prog) Try.underlying9 (s := ByteArray.empty) (by unfold maxLen; decide)) (keyS k hk)
  rw [h2.at h.rise k, hv] at hs
  obtain ⟨s, rfl, hz, -⟩ := plainElem_string_inv Try.underlying9 hs
  rw [hrun]
  have e : s = S v := by
    have h1 : s.data.toList = v := by simpa using (congrArg Prod.fst hz).symm
    apply ByteArray.ext; simp [S]; exact Array.toList_inj.1 (by simpa using h1)
  rw [e]
theorem MapIs.made (w : World) : MapIs (w.alloc (.map #[] 0)) w.heap.size [] :=
  ⟨⟨.map [], World.ownsMap_made _ _ _ _, Says.empty⟩, List.Pairwise.nil, fun e he => by simp at he, by simp⟩

end Go.Proofs.Ythcjcmalfnfjkaa
