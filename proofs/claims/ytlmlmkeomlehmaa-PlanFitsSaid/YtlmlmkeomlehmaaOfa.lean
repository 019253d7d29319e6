/-
  What law 20's of holds while it makes two nodes: two boxes, each with a row of children.
-/
import Derived.Test.YtlmlmkeomlehmaaHlv
namespace Go.Proofs.Ytlmlmkeomlehmaa
open Go.RowKit

/-- A row of children lies elsewhere than a box. -/
theorem own_box {w : World} {B n : Nat} {E : TypeId} {v : Value} {l : List Chd} (h : w.ownsRow B E 4 v n (cellsC l)) (hl : 0 < l.length) {p : Nat} {a : Option Addr} {m c : Nat} (hp : w.cell? ⟨p, 0, none⟩ = some (.slice a m c)) : v.ownBlock ≠ some p := by
  intro e
  rcases ownsRow_open h with ⟨rfl, -, -⟩ | ⟨g, cap, cur, rfl, -, hr, h3, -, h5, h6⟩
  · simp [Value.ownBlock] at e
  · obtain rfl : g = p := by simpa [Value.ownBlock] using e
    have hn := h.1
    rw [cellsC_len] at hn
    rw [hr.cell] at hp
    cases l with
    | nil => simp at hl
    | cons x t =>
      have h0 : (cur.take (n * 4))[0]? = some (.string (S x.low)) := by rw [h6]; rfl
      rw [List.getElem?_take] at h0
      split at h0
      · rw [hp] at h0; injection h0 with h0; exact absurd h0 (by simp)
      · exact absurd h0 (by simp)

theorem infoV2 : (Try.prog.info? 113).map (fun i => (i.zero, i.size, i.bytes)) = some (some (.agg #[.int .u8 0, .string ByteArray.empty, .string ByteArray.empty, .int .u64 0]), 4, 48) := by kernel_rfl
/-- A row of updates lies elsewhere than a box. -/
theorem own_boxU {w : World} {B n : Nat} {E : TypeId} {v : Value} {l : List Upd} (h : w.ownsRow B E 4 v n (cellsU l)) (hl : 0 < l.length ∨ v = .slice none 0 0) {p : Nat} {a : Option Addr} {m c : Nat} (hp : w.cell? ⟨p, 0, none⟩ = some (.slice a m c)) : v.ownBlock ≠ some p := by
  intro e
  rcases ownsRow_open h with ⟨rfl, -, -⟩ | ⟨g, cap, cur, rfl, -, hr, h3, -, h5, h6⟩
  · simp [Value.ownBlock] at e
  · obtain rfl : g = p := by simpa [Value.ownBlock] using e
    have hn := h.1
    rw [cellsU_len] at hn
    rw [hr.cell] at hp
    cases l with
    | nil =>
      rcases hl with hl | hl
      · simp at hl
      · simp at hl
    | cons x t =>
      have h0 : (cur.take (n * 4))[0]? = some (.int .u8 x.kind) := by rw [h6]; rfl
      rw [List.getElem?_take] at h0
      split at h0
      · rw [hp] at h0; injection h0 with h0; exact absurd h0 (by simp)
      · exact absurd h0 (by simp)
theorem withAll_pos (us : List Upd) (u : Upd) (h : ∀ x ∈ us, x.Wf ∧ x.val.length ≤ 1000000) : 0 < (withAll (us ++ [u])).length := by
  obtain ⟨hr, -, -⟩ := withAll_ok us h
  rw [withAll_snoc]
  cases hh : hasKey Upd.key (withAll us) u.key with
  | false => rw [withL_new hh, insU_len]; omega
  | true =>
    obtain ⟨i, hi, hk, e⟩ := withL_old hr hh
    rw [e, List.length_set]; omega
theorem withAll_puts : ∀ (us : List Upd), (∀ u ∈ us, u.kind ≠ 3) → (∀ x ∈ us, x.Wf ∧ x.val.length ≤ 1000000) → ∀ x ∈ withAll us, x ∈ us := by
  intro us
  induction us using snoc_ind with
  | h0 => intro _ _ x hx; simp [withAll] at hx
  | h1 us u ih =>
    intro h hw x hx
    have hw' := fun x hx => hw x (List.mem_append.2 (Or.inl hx))
    have h0 := ih (fun x hx => h x (by simp [hx])) hw'
    obtain ⟨hr, -, -⟩ := withAll_ok us hw'
    rw [withAll_snoc] at hx
    cases hh : hasKey Upd.key (withAll us) u.key with
    | false =>
      rw [withL_new hh] at hx
      rcases insU_mem.1 hx with rfl | hx
      · simp
      · exact List.mem_append.2 (Or.inl (h0 x hx))
    | true =>
      obtain ⟨i, hi, hk, e⟩ := withL_old hr hh
      rw [e] at hx
      rcases List.mem_or_eq_of_mem_set hx with hx | rfl
      · exact List.mem_append.2 (Or.inl (h0 x hx))
      · rw [joinL_not _ u (h u (by simp))]; simp
theorem withOwn_next (a : Option Addr) (n c : Nat) (us : List Upd) (u : Upd) (w : World) (hn : n = (withAll us).length) (h : BoxU w (.agg #[.slice a n c]) (withAll us)) (hl : us.length ≤ 1000) (hus : ∀ x ∈ us, x.Wf ∧ x.val.length ≤ 1000000) (hu : u.Wf) :
    Calls Try.prog 25 #[.agg #[.slice a n c], .agg #[.int .u8 u.kind, .string (S u.key), .string (S u.val), .int .u64 u.delta]] w fun e w' => (∃ a' c', e = .returned (.agg #[.slice a' (withAll (us ++ [u])).length c']) ∧ w'.ownsRow w.heap.size 67 4 (.slice a' (withAll (us ++ [u])).length c') (withAll (us ++ [u])).length (cellsU (withAll (us ++ [u])))) ∧ Below w.heap.size w w' := by
  subst hn
  obtain ⟨h1, h2, h3⟩ := withAll_ok us hus
  refine (with_own _ (withAll us) u.kind u.key u.val u.delta w h (by omega) h1 h2 hu.1 hu.2).mono ?_
  rintro e w' ⟨⟨v', he, a', c', hv, ho⟩, hb⟩
  rw [show withL (withAll us) ⟨u.kind, u.key, u.val, u.delta⟩ = withAll (us ++ [u]) from (withAll_snoc us u).symm] at hv ho
  subst hv
  exact ⟨⟨a', c', he, ho⟩, hb⟩

/-- Two nodes in boxes p and q: each a row of children of the call's own, and a buffer. -/
structure OfAt (w0 w : World) (B p q : Nat) (c1 c2 : List Chd) (a1 : Option Addr) (y1 : Nat) (a2 : Option Addr) (y2 : Nat) (x1 x2 : Value) : Prop where
  p0 : w.cell? ⟨p, 0, none⟩ = some (.slice a1 c1.length y1)
  p1 : w.cell? ⟨p, 1, none⟩ = some x1
  q0 : w.cell? ⟨q, 0, none⟩ = some (.slice a2 c2.length y2)
  q1 : w.cell? ⟨q, 1, none⟩ = some x2
  fp : ∀ o, w.frozen? ⟨p, o, none⟩ = false
  fq : ∀ o, w.frozen? ⟨q, o, none⟩ = false
  own1 : w.ownsRow B 100 4 (.slice a1 c1.length y1) c1.length (cellsC c1)
  own2 : w.ownsRow B 50 4 (.slice a2 c2.length y2) c2.length (cellsC c2)
  pos1 : 0 < c1.length
  pos2 : 0 < c2.length
  below : Below B w0 w
  leP : B ≤ p
  leQ : B ≤ q
  ne : p ≠ q
section
variable {w0 w w' : World} {B p q : Nat} {c1 c2 : List Chd} {a1 a2 : Option Addr} {y1 y2 : Nat} {x1 x2 : Value}
theorem OfAt.ltP (h : OfAt w0 w B p q c1 c2 a1 y1 a2 y2 x1 x2) : p < w.heap.size := World.block_lt_of_cell? w _ h.p0
theorem OfAt.ltQ (h : OfAt w0 w B p q c1 c2 a1 y1 a2 y2 x1 x2) : q < w.heap.size := World.block_lt_of_cell? w _ h.q0
theorem OfAt.leB (h : OfAt w0 w B p q c1 c2 a1 y1 a2 y2 x1 x2) : B ≤ w.heap.size := by have := h.leP; have := h.ltP; omega
theorem OfAt.on (h : OfAt w0 w B p q c1 c2 a1 y1 a2 y2 x1 x2) (hb : Below w.heap.size w w') : OfAt w0 w' B p q c1 c2 a1 y1 a2 y2 x1 x2 :=
  ⟨kept_cell hb h.p0, kept_cell hb h.p1, kept_cell hb h.q0, kept_cell hb h.q1, fun o => ((bcell hb).2 p o h.ltP).trans (h.fp o), fun o => ((bcell hb).2 q o h.ltQ).trans (h.fq o), own_below h.own1 hb, own_below h.own2 hb, h.pos1, h.pos2, h.below.trans (hb.mono h.leB), h.leP, h.leQ, h.ne⟩
/-- The first row has grown. -/
theorem OfAt.grow1 (h : OfAt w0 w B p q c1 c2 a1 y1 a2 y2 x1 x2) (hg : w.grownBy w' (Value.slice a1 c1.length y1).ownBlock) : w'.cell? ⟨p, 0, none⟩ = some (.slice a1 c1.length y1) ∧ w'.frozen? ⟨p, 0, none⟩ = false :=
  ⟨hg.cell h.p0 (fun e => own_box h.own1 h.pos1 h.p0 e.symm), (World.frozen?_of_block (hg.block p h.ltP (fun e => own_box h.own1 h.pos1 h.p0 e.symm))).trans (h.fp 0)⟩
theorem OfAt.grow2 (h : OfAt w0 w B p q c1 c2 a1 y1 a2 y2 x1 x2) (hg : w.grownBy w' (Value.slice a2 c2.length y2).ownBlock) : w'.cell? ⟨q, 0, none⟩ = some (.slice a2 c2.length y2) ∧ w'.frozen? ⟨q, 0, none⟩ = false :=
  ⟨hg.cell h.q0 (fun e => own_box h.own2 h.pos2 h.q0 e.symm), (World.frozen?_of_block (hg.block q h.ltQ (fun e => own_box h.own2 h.pos2 h.q0 e.symm))).trans (h.fq 0)⟩
theorem OfAt.put1 (h : OfAt w0 w B p q c1 c2 a1 y1 a2 y2 x1 x2) (hg : w.grownBy w' (Value.slice a1 c1.length y1).ownBlock) {c1' : List Chd} {a' : Option Addr} {y' : Nat} (ho : w'.ownsRow B 100 4 (.slice a' c1'.length y') c1'.length (cellsC c1')) (hp' : 0 < c1'.length) :
    OfAt w0 (w'.setCell ⟨p, 0, none⟩ (.slice a' c1'.length y')) B p q c1' c2 a' y' a2 y2 x1 x2 := by
  have e1 : some p ≠ (Value.slice a1 c1.length y1).ownBlock := fun e => own_box h.own1 h.pos1 h.p0 e.symm
  have e2 : some q ≠ (Value.slice a1 c1.length y1).ownBlock := fun e => own_box h.own1 h.pos1 h.q0 e.symm
  have z0 := hg.cell h.p0 e1
  have hk := own_kinds h.own2 h.own1 (by decide)
  have o2 := h.own2.kept hg hk
  refine ⟨World.cell?_setCell_same _ _ _ z0, ?_, ?_, ?_, fun o => ?_, fun o => ?_, ?_, ?_, hp', h.pos2, ?_, h.leP, h.leQ, h.ne⟩
  · rw [World.cell?_setCell_other _ _ _ _ (addr_ne (Or.inr (by decide)))]; exact hg.cell h.p1 e1
  · rw [World.cell?_setCell_other _ _ _ _ (addr_ne (Or.inl h.ne))]; exact hg.cell h.q0 e2
  · rw [World.cell?_setCell_other _ _ _ _ (addr_ne (Or.inl h.ne))]; exact hg.cell h.q1 e2
  · rw [World.frozen?_setCell]; exact (World.frozen?_of_block (hg.block p h.ltP e1)).trans (h.fp o)
  · rw [World.frozen?_setCell]; exact (World.frozen?_of_block (hg.block q h.ltQ e2)).trans (h.fq o)
  · exact ownsRow_setCell_other (a := ⟨p, 0, none⟩) ho (own_box ho hp' z0) _
  · exact ownsRow_setCell_other (a := ⟨p, 0, none⟩) o2 (own_box o2 h.pos2 z0) _
  · exact (below_grown h.below hg (fun k e => (h.own1.lt k e).1) h.leB).setCell (p := ⟨p, 0, none⟩) h.leP _
theorem OfAt.put2 (h : OfAt w0 w B p q c1 c2 a1 y1 a2 y2 x1 x2) (hg : w.grownBy w' (Value.slice a2 c2.length y2).ownBlock) {c2' : List Chd} {a' : Option Addr} {y' : Nat} (ho : w'.ownsRow B 50 4 (.slice a' c2'.length y') c2'.length (cellsC c2')) (hp' : 0 < c2'.length) :
    OfAt w0 (w'.setCell ⟨q, 0, none⟩ (.slice a' c2'.length y')) B p q c1 c2' a1 y1 a' y' x1 x2 := by
  have e1 : some p ≠ (Value.slice a2 c2.length y2).ownBlock := fun e => own_box h.own2 h.pos2 h.p0 e.symm
  have e2 : some q ≠ (Value.slice a2 c2.length y2).ownBlock := fun e => own_box h.own2 h.pos2 h.q0 e.symm
  have z0 := hg.cell h.q0 e2
  have hk := own_kinds h.own1 h.own2 (by decide)
  have o1 := h.own1.kept hg hk
  refine ⟨?_, ?_, World.cell?_setCell_same _ _ _ z0, ?_, fun o => ?_, fun o => ?_, ?_, ?_, h.pos1, hp', ?_, h.leP, h.leQ, h.ne⟩
  · rw [World.cell?_setCell_other _ _ _ _ (addr_ne (Or.inl h.ne.symm))]; exact hg.cell h.p0 e1
  · rw [World.cell?_setCell_other _ _ _ _ (addr_ne (Or.inl h.ne.symm))]; exact hg.cell h.p1 e1
  · rw [World.cell?_setCell_other _ _ _ _ (addr_ne (Or.inr (by decide)))]; exact hg.cell h.q1 e2
  · rw [World.frozen?_setCell]; exact (World.frozen?_of_block (hg.block p h.ltP e1)).trans (h.fp o)
  · rw [World.frozen?_setCell]; exact (World.frozen?_of_block (hg.block q h.ltQ e2)).trans (h.fq o)
  · exact ownsRow_setCell_other (a := ⟨q, 0, none⟩) o1 (own_box o1 h.pos1 z0) _
  · exact ownsRow_setCell_other (a := ⟨q, 0, none⟩) ho (own_box ho hp' z0) _
  · exact (below_grown h.below hg (fun k e => (h.own2.lt k e).1) h.leB).setCell (p := ⟨q, 0, none⟩) h.leQ _
theorem OfAt.putx1 (h : OfAt w0 w B p q c1 c2 a1 y1 a2 y2 x1 x2) (v : Value) : OfAt w0 (w.setCell ⟨p, 1, none⟩ v) B p q c1 c2 a1 y1 a2 y2 v x2 := by
  refine ⟨?_, World.cell?_setCell_same _ _ _ h.p1, ?_, ?_, fun o => ?_, fun o => ?_, ?_, ?_, h.pos1, h.pos2, h.below.setCell (p := ⟨p, 1, none⟩) h.leP _, h.leP, h.leQ, h.ne⟩
  · rw [World.cell?_setCell_other _ _ _ _ (addr_ne (Or.inr (by decide)))]; exact h.p0
  · rw [World.cell?_setCell_other _ _ _ _ (addr_ne (Or.inl h.ne))]; exact h.q0
  · rw [World.cell?_setCell_other _ _ _ _ (addr_ne (Or.inl h.ne))]; exact h.q1
  · rw [World.frozen?_setCell]; exact h.fp o
  · rw [World.frozen?_setCell]; exact h.fq o
  · exact ownsRow_setCell_other (a := ⟨p, 1, none⟩) h.own1 (own_box h.own1 h.pos1 h.p0) _
  · exact ownsRow_setCell_other (a := ⟨p, 1, none⟩) h.own2 (own_box h.own2 h.pos2 h.p0) _
theorem OfAt.putx2 (h : OfAt w0 w B p q c1 c2 a1 y1 a2 y2 x1 x2) (v : Value) : OfAt w0 (w.setCell ⟨q, 1, none⟩ v) B p q c1 c2 a1 y1 a2 y2 x1 v := by
  refine ⟨?_, ?_, ?_, World.cell?_setCell_same _ _ _ h.q1, fun o => ?_, fun o => ?_, ?_, ?_, h.pos1, h.pos2, h.below.setCell (p := ⟨q, 1, none⟩) h.leQ _, h.leP, h.leQ, h.ne⟩
  · rw [World.cell?_setCell_other _ _ _ _ (addr_ne (Or.inl h.ne.symm))]; exact h.p0
  · rw [World.cell?_setCell_other _ _ _ _ (addr_ne (Or.inl h.ne.symm))]; exact h.p1
  · rw [World.cell?_setCell_other _ _ _ _ (addr_ne (Or.inr (by decide)))]; exact h.q0
  · rw [World.frozen?_setCell]; exact h.fp o
  · rw [World.frozen?_setCell]; exact h.fq o
  · exact ownsRow_setCell_other (a := ⟨q, 1, none⟩) h.own1 (own_box h.own1 h.pos1 h.q0) _
  · exact ownsRow_setCell_other (a := ⟨q, 1, none⟩) h.own2 (own_box h.own2 h.pos2 h.q0) _
/-- A row elsewhere has grown. -/
theorem OfAt.kept (h : OfAt w0 w B p q c1 c2 a1 y1 a2 y2 x1 x2) {r : Option Nat} (hg : w.grownBy w' r) (h1 : some p ≠ r) (h2 : some q ≠ r) (h3 : (Value.slice a1 c1.length y1).ownBlock = none ∨ (Value.slice a1 c1.length y1).ownBlock ≠ r) (h4 : (Value.slice a2 c2.length y2).ownBlock = none ∨ (Value.slice a2 c2.length y2).ownBlock ≠ r) (h5 : ∀ k, r = some k → B ≤ k) : OfAt w0 w' B p q c1 c2 a1 y1 a2 y2 x1 x2 :=
  ⟨hg.cell h.p0 h1, hg.cell h.p1 h1, hg.cell h.q0 h2, hg.cell h.q1 h2, fun o => (World.frozen?_of_block (hg.block p h.ltP h1)).trans (h.fp o), fun o => (World.frozen?_of_block (hg.block q h.ltQ h2)).trans (h.fq o), h.own1.kept hg h3, h.own2.kept hg h4, h.pos1, h.pos2, below_grown h.below hg h5 h.leB, h.leP, h.leQ, h.ne⟩
end

/-- The update that of makes of a text. -/
def key20 (s : List UInt8) : List UInt8 := if (s.take 9).isEmpty = true then [1] else s.take 9
def upd20 (s : List UInt8) : Upd := ⟨1, key20 s, s.take 3, 0⟩
theorem upd20_wf (s : List UInt8) : (upd20 s).Wf := ⟨by show (1 : Nat) < 256; decide, by show (0 : Nat) < 18446744073709551616; decide⟩
theorem key20_len (s : List UInt8) : 1 ≤ (key20 s).length ∧ (key20 s).length ≤ 9 := by
  unfold key20
  split
  · simp
  · rename_i h
    rw [List.isEmpty_iff] at h
    have : 0 < (s.take 9).length := List.length_pos_iff.2 h
    rw [List.length_take] at this ⊢
    omega
def upds (l : List (List UInt8)) : List Upd := (l.take 60).map upd20
def updsTo (l : List (List UInt8)) (j : Nat) : List Upd := (l.take j).map upd20
theorem updsTo_succ (l : List (List UInt8)) {j : Nat} (h : j < l.length) : updsTo l (j + 1) = updsTo l j ++ [upd20 l[j]] := by
  unfold updsTo
  rw [List.take_succ_eq_append_getElem h, List.map_append]; rfl
theorem updsTo_all (l : List (List UInt8)) : updsTo l (min l.length 60) = upds l := by
  unfold updsTo upds
  by_cases h : l.length ≤ 60
  · rw [Nat.min_eq_left h, List.take_length, List.take_of_length_le h]
  · rw [Nat.min_eq_right (by omega)]
theorem updsTo_ok (l : List (List UInt8)) (j : Nat) : ∀ x ∈ updsTo l j, x.Wf ∧ x.val.length ≤ 1000000 := by
  intro x hx
  obtain ⟨s, -, rfl⟩ := List.mem_map.1 hx
  exact ⟨upd20_wf s, by show (s.take 3).length ≤ _; rw [List.length_take]; omega⟩
theorem updsTo_len (l : List (List UInt8)) (j : Nat) : (updsTo l j).length ≤ j := by
  unfold updsTo; rw [List.length_map, List.length_take]; omega

/-- The children that of makes of texts. -/
def kid (i : Nat) (s : List UInt8) : Chd := ⟨UInt8.ofNat (4 * i + 4 + s.length % 4) :: s.take 5, i + 2, 0, 0⟩
def kids (l : List (List UInt8)) : List Chd := ⟨[], 1, 0, 0⟩ :: (l.take 20).mapIdx kid
theorem kids_nil : kids [] = [⟨[], 1, 0, 0⟩] := rfl
theorem kids_len (l : List (List UInt8)) : (kids l).length = min l.length 20 + 1 := by simp [kids]; omega
/-- The first ones. -/
def kidsTo (l : List (List UInt8)) (j : Nat) : List Chd := ⟨[], 1, 0, 0⟩ :: (l.take j).mapIdx kid
theorem kidsTo_len (l : List (List UInt8)) {j : Nat} (h : j ≤ l.length) : (kidsTo l j).length = j + 1 := by simp [kidsTo]; omega
theorem kidsTo_succ (l : List (List UInt8)) {j : Nat} (h : j < l.length) : kidsTo l (j + 1) = kidsTo l j ++ [kid j l[j]] := by
  unfold kidsTo
  rw [List.take_succ_eq_append_getElem h, List.mapIdx_append]
  simp [Nat.min_eq_left (Nat.le_of_lt h)]
theorem kidsTo_all (l : List (List UInt8)) : kidsTo l (min l.length 20) = kids l := by
  unfold kidsTo kids
  by_cases h : l.length ≤ 20
  · rw [Nat.min_eq_left h, List.take_length, List.take_of_length_le h]
  · rw [Nat.min_eq_right (by omega)]
theorem cellsC_snoc (l : List Chd) (c : Chd) : cellsC (l ++ [c]) = cellsC l ++ [.string (S c.low), .int .i64 c.addr, .int .u64 c.gen, .int .u32 c.sum] := by simp [cellsC, Chd.cells]

end Go.Proofs.Ytlmlmkeomlehmaa
