/-
  Small lemmas that every walk of this seat uses: contracts threaded through what has been kept since a call began; equal returns.
  A region that draws its order, walked once in a class of worlds.
  Texts as lists of bytes: 'S l' is the text whose bytes are l. What the walk's operations on texts come to, said of the lists.
  The order of texts, and lists by rising keys: plain laws, no program in sight.
  A slice that is only read: where its elements' cells lie. 'SlAt enc k w ao l': the elements l, each of k cells 'enc x', lie behind the address ao (of which nothing is said where there is no element).
  The plain words of layer 12 (rec): updates, whether they may be, and their bytes. No program in sight.
  Updates as cells, and their bytes.
  Entries as cells, and their bytes.
  The walk of cmp.Compare at texts.
  The walks of the look for a key among updates: the comparison, the binary search.
  Rows of structs, of the call's own: copies of elements of several cells; an insertion into such a row, told as lists of cells.
  The walk of slices.Clone at updates; slices as arguments.
  The walks of a value that holds updates: how many, the list, the place of a key.
  What all texts above use: worlds that kept what was there; the least and the greatest of two; a list turned; a list grown from behind.
-/
import Derived.Test.YtafciefjlkdecaaGreatProg
import Derived.WalkKit
import Derived.WalkSpells
import Derived.WalkLawsBesides
import Derived.Handy
import Derived.Lib.Hide
import Derived.Deep.RegionHeld3
import Derived.BigQuiet
import Derived.Deep.DrawnRows
import Derived.Laws.BytesArg
import Derived.Laws.Concat
import Derived.Laws.Strings2
import Derived.Laws.Strings3
import Derived.Deep.OwnRows
import Derived.Outline
import Derived.Lib.Walk
import Derived.Laws.IdiomCopy
import Derived.Laws.OwnMore
import Derived.Lib.AppendZerosOnto
import Derived.Lib.Overlaps
import Derived.Maps.AppendAt
import Derived.Deep.RegionLaw
import Derived.Laws.AppendOwnNone
namespace Go.Proofs.YtafciefjlkdecaaGreat
open Go.RowKit

theorem ret_bool {a b : Bool} (h : a = b) : Ending.returned (.bool a) = .returned (.bool b) := by rw [h]
theorem ret_int {k : IntKind} {a b : Int} (h : a = b) : Ending.returned (.int k a) = .returned (.int k b) := by rw [h]
theorem ret_val {a b : Value} (h : a = b) : Ending.returned a = .returned b := by rw [h]

theorem beq_zero (m : Nat) : ((m : Int) == 0) = decide (m = 0) := by rw [Bool.eq_iff_iff]; simp

/-- What lies below the old size reads as it did. -/
theorem bcell {W w1 : World} (hb : Below W.heap.size W w1) : (∀ b o, b < W.heap.size → w1.cell? ⟨b, o, none⟩ = W.cell? ⟨b, o, none⟩) ∧ (∀ b o, b < W.heap.size → w1.frozen? ⟨b, o, none⟩ = W.frozen? ⟨b, o, none⟩) :=
  ⟨fun b o h => hb.cell (p := ⟨b, o, none⟩) h, fun b o h => hb.frozen (p := ⟨b, o, none⟩) h⟩

/-- A cell that is there is there behind a new block. -/
theorem cell_past {W : World} {a : Addr} {v : Value} (o : Obj) (h : W.cell? a = some v) : (W.alloc o).cell? a = some v := by
  have hlt : a.block < W.heap.size := World.block_lt_of_cell? W a h
  rw [← h]
  exact World.cell?_of_block (Below.heap_alloc W o a.block hlt)

/-- A contract that keeps what was there, carried on from a world further back. -/
theorem thread {P : Program} {f : FuncId} {args : Array Value} {w : World} {R : Ending → World → Prop}
    (hc : Calls P f args w (fun e w' => R e w' ∧ Below w.heap.size w w')) (B : Nat) (w0 : World) (h0 : Below B w0 w) (hB : B ≤ w.heap.size) :
    Calls P f args w (fun e w' => R e w' ∧ Below B w0 w' ∧ (∀ b o, b < w.heap.size → w'.cell? ⟨b, o, none⟩ = w.cell? ⟨b, o, none⟩) ∧ (∀ b o, b < w.heap.size → w'.frozen? ⟨b, o, none⟩ = w.frozen? ⟨b, o, none⟩) ∧ w.heap.size ≤ w'.heap.size ∧ B ≤ w'.heap.size) :=
  hc.mono fun _ _ ⟨hr, hb⟩ => ⟨hr, h0.trans (hb.mono hB), (bcell hb).1, (bcell hb).2, hb.size, Nat.le_trans hB hb.size⟩

/-- A contract that keeps what was there: the cells up to block M that are known, and what lies below since a world further back. -/
theorem carry {P : Program} {f : FuncId} {args : Array Value} {w : World} {R : Ending → World → Prop}
    (hc : Calls P f args w (fun e w' => R e w' ∧ Below w.heap.size w w')) (M B : Nat) (w0 : World) (hM : M < w.heap.size) (h0 : Below B w0 w) (hB : B ≤ M) :
    Calls P f args w (fun e w' => R e w' ∧ (∀ b o v, b ≤ M → w.cell? ⟨b, o, none⟩ = some v → w'.cell? ⟨b, o, none⟩ = some v) ∧ M < w'.heap.size ∧ Below B w0 w') :=
  hc.mono fun _ _ ⟨hr, hb⟩ => ⟨hr, fun b o v h1 h2 => (hb.cell (p := ⟨b, o, none⟩) (by show b < _; omega)).trans h2, Nat.lt_of_lt_of_le hM hb.size, h0.trans (hb.mono (by omega))⟩

end Go.Proofs.YtafciefjlkdecaaGreat

namespace Go.Proofs.YtafciefjlkdecaaGreat
open Go.RowKit

/-- A region that draws its order, walked once, in a class of worlds. -/
theorem wp_region_quietC {P : Program} {C : World → Prop} {id : Nat} {Q : Exit → Act → World → Prop} {a : Act} {w : World} {l : List Oper} (hm : P.follows .mixedOrders = true) (hB : Region.lexB .any l.toArray = true) (hC : C w.drew)
    (h : wpQuiet P l.toArray C (fun a' => ∀ w', C w' → Q .normal a' w') l a) : (Code.region id l.toArray true).wp P Q a w :=
  wp_region_quiet (C := C) hm hB hC (by simpa using h)
/-- The quiet walk, shut: so that nobody reckons it ahead of its time. -/
structure WQ (P : Program) (ops : Array Oper) (C : World → Prop) (Q : Act → Prop) (l : List Oper) (a : Act) : Prop where
  out : wpQuiet P ops C Q l a
theorem WQ.want {P : Program} {ops : Array Oper} {C : World → Prop} {Q : Act → Prop} {o : Oper} {rest : List Oper} {a : Act} (hw : Region.wanted o (yielded ops a.tmps) = true) (h : ∀ K : Act → Prop, (∀ a, WQ P ops C Q rest a → K a) → o.quiet P a C K) : WQ P ops C Q (o :: rest) a :=
  ⟨BigFrame.wpQuiet_want hw fun K hK => h K fun a ha => hK a ha.out⟩
theorem WQ.skip {P : Program} {ops : Array Oper} {C : World → Prop} {Q : Act → Prop} {o : Oper} {rest : List Oper} {a : Act} (hw : Region.wanted o (yielded ops a.tmps) = false) (h : WQ P ops C Q rest (a.put o.dst undef)) : WQ P ops C Q (o :: rest) a :=
  ⟨BigFrame.wpQuiet_skip hw h.out⟩
theorem WQ.done {P : Program} {ops : Array Oper} {C : World → Prop} {Q : Act → Prop} {a : Act} (h : Q a) : WQ P ops C Q [] a := ⟨wpQuiet_nil h⟩
theorem WQ.region {P : Program} {C : World → Prop} {id : Nat} {Q : Exit → Act → World → Prop} {a : Act} {w : World} {l : List Oper} (hm : P.follows .mixedOrders = true) (hB : Region.lexB .any l.toArray = true) (hC : C w.drew)
    (h : WQ P l.toArray C (fun a' => ∀ w', C w' → Q .normal a' w') l a) : (Code.region id l.toArray true).wp P Q a w := wp_region_quietC hm hB hC h.out

end Go.Proofs.YtafciefjlkdecaaGreat

namespace Go.Proofs.YtafciefjlkdecaaGreat
open Go.RowKit

/-- The text whose bytes are l. -/
def S (l : List UInt8) : ByteArray := ⟨l.toArray⟩

theorem S_of (s : ByteArray) : s = S s.data.toList := by cases s; simp [S]
theorem S_ex (s : ByteArray) : ∃ l, s = S l := ⟨_, S_of s⟩
theorem S_inj {a b : List UInt8} (h : S a = S b) : a = b := by
  have := congrArg (fun s : ByteArray => s.data.toList) h
  simpa [S] using this
@[go_sem] theorem S_size (l : List UInt8) : (S l).size = l.length := by simp [S, ByteArray.size]
@[go_sem] theorem S_toList (l : List UInt8) : (S l).toList = l := by simp [S]
theorem S_data (l : List UInt8) : (S l).data.toList = l := by simp [S]
@[go_sem] theorem S_append (a b : List UInt8) : S a ++ S b = S (a ++ b) := by simp only [S]; exact ByteArray.mk_append_mk a b
@[go_sem] theorem S_extract (l : List UInt8) (a b : Nat) : (S l).extract a b = S ((l.drop a).take (b - a)) := by simp only [S]; exact ByteArray.extract_mk l a b
@[go_sem] theorem S_get (l : List UInt8) (i : Nat) (h : i < (S l).size) : (S l)[i] = l[i]'(by rwa [S_size] at h) := by
  simp only [S]; rfl
theorem S_nil : S [] = ByteArray.empty := rfl
theorem S_lit (l : List UInt8) : (⟨l.toArray⟩ : ByteArray) = S l := rfl
theorem strOfNums_S (ns : List Int) : strOfNums ns = S (ns.map fun n => UInt8.ofNat n.toNat) := rfl

theorem cell_new (w : World) (c : Array Value) (e : TypeId) (fz : Nat × Nat) (i : Nat) : (w.alloc (.cells c e fz)).cell? ⟨w.heap.size, i, none⟩ = c[i]? :=
  cell_of_row _ w.heap.size i c e fz (heap_alloc_new w _)

/-- What 'string(b)' comes to, b of one byte at the head of block n: by what the cell there holds. -/
def conv1 (P : Program) (src dst : TypeId) (W : World) (n c : Nat) : Option Value → Result Value
  | some (.int .u8 x) => .ok (.string (S [UInt8.ofNat x.toNat])) W
  | _ => (convert src dst (.slice (some ⟨n, 0, none⟩) 1 c)).run P W
@[go_sem] theorem conv1_some (P : Program) (src dst : TypeId) (W : World) (n c : Nat) (x : Int) : conv1 P src dst W n c (some (.int .u8 x)) = .ok (.string (S [UInt8.ofNat x.toNat])) W := rfl
theorem run_str1 {P : Program} (src dst e : TypeId) (hs : P.underlying src = some (.slice e)) (he : P.underlying e = some (.int .u8)) (hd : P.underlying dst = some .string) (W : World) (n c : Nat) :
    (convert src dst (.slice (some ⟨n, 0, none⟩) 1 c)).run P W = conv1 P src dst W n c (W.cell? ⟨n, 0, none⟩) := by
  cases h : W.cell? ⟨n, 0, none⟩ with
  | none => rfl
  | some v =>
    cases v with
    | int k x =>
      cases k <;> first
        | rfl
        | (refine run_convert_bytes_arg W src e hs he n 0 1 c [x] rfl (fun i hi => ?_) dst hd
           obtain rfl : i = 0 := by omega
           exact h)
    | _ => rfl
/-- The same, of two bytes. -/
def conv2 (P : Program) (src dst : TypeId) (W : World) (n c : Nat) : Option Value → Option Value → Result Value
  | some (.int .u8 x), some (.int .u8 y) => .ok (.string (S [UInt8.ofNat x.toNat, UInt8.ofNat y.toNat])) W
  | _, _ => (convert src dst (.slice (some ⟨n, 0, none⟩) 2 c)).run P W
@[go_sem] theorem conv2_some (P : Program) (src dst : TypeId) (W : World) (n c : Nat) (x y : Int) : conv2 P src dst W n c (some (.int .u8 x)) (some (.int .u8 y)) = .ok (.string (S [UInt8.ofNat x.toNat, UInt8.ofNat y.toNat])) W := rfl
theorem run_str2 {P : Program} (src dst e : TypeId) (hs : P.underlying src = some (.slice e)) (he : P.underlying e = some (.int .u8)) (hd : P.underlying dst = some .string) (W : World) (n c : Nat) :
    (convert src dst (.slice (some ⟨n, 0, none⟩) 2 c)).run P W = conv2 P src dst W n c (W.cell? ⟨n, 0, none⟩) (W.cell? ⟨n, 1, none⟩) := by
  unfold conv2
  split
  · rename_i x y h0 h1
    refine run_convert_bytes_arg W src e hs he n 0 2 c [x, y] rfl (fun i hi => ?_) dst hd
    match i, hi with
    | 0, _ => exact h0
    | 1, _ => exact h1
  · rfl
/-- 'string(make([]byte, n))'. -/
theorem run_str_made {P : Program} (src dst e : TypeId) (hs : P.underlying src = some (.slice e)) (he : P.underlying e = some (.int .u8)) (hd : P.underlying dst = some .string) (w : World) (n c m : Nat) (hm : m = w.heap.size) :
    (convert src dst (.slice (some ⟨m, 0, none⟩) n c)).run P (w.alloc (.cells (madeCells #[.int .u8 0] n) e)) = .ok (.string (S (List.replicate n 0))) (w.alloc (.cells (madeCells #[.int .u8 0] n) e)) := by
  subst hm
  have h := run_convert_bytes_arg (P := P) (w.alloc (.cells (madeCells #[.int .u8 0] n) e)) src e hs he w.heap.size 0 n c (List.replicate n 0) (by simp) (fun i hi => ?_) dst hd
  · rw [h, strOfNums_S]; simp
  · rw [Nat.zero_add, cell_new]; simp [madeCells, hi, List.getD, Nat.mod_one]

theorem ofNat_mod (n : Nat) : UInt8.ofNat (n % 256) = UInt8.ofNat n := by apply UInt8.toNat_inj.1; simp
/-- The k least significant bytes of n, the least first. -/
def le (n k : Nat) : List UInt8 := (List.range k).map fun i => UInt8.ofNat (n / 256 ^ i % 256)
theorem le_zero (n : Nat) : le n 0 = [] := rfl
theorem le_succ (n k : Nat) : le n (k + 1) = le n k ++ [UInt8.ofNat (n / 256 ^ k % 256)] := by simp [le, List.range_succ]
@[simp, go_sem] theorem le_length (n k : Nat) : (le n k).length = k := by simp [le]
theorem div_pow_succ (n k : Nat) : n / 256 ^ (k + 1) = n / 256 ^ k / 256 := by rw [Nat.pow_succ, Nat.div_div_eq_div_mul]

end Go.Proofs.YtafciefjlkdecaaGreat

namespace Go.Proofs.YtafciefjlkdecaaGreat
open Go.RowKit

/-- Is one text ahead of another one? -/
abbrev bl (a b : List UInt8) : Bool := Op.bytesLess a b

theorem bl_irrefl : ∀ a, bl a a = false
  | [] => rfl
  | x :: a => by simp [bl, Op.bytesLess, bl_irrefl a]
theorem bl_nil (a : List UInt8) : bl a [] = false := by cases a <;> rfl
theorem bl_cons (x y : UInt8) (a b : List UInt8) : bl (x :: a) (y :: b) = true ↔ x < y ∨ (x = y ∧ bl a b = true) := by
  simp only [bl, Op.bytesLess]
  by_cases h : x = y
  · subst h; simp
  · simp [h]
theorem bl_trans : ∀ {a b c : List UInt8}, bl a b = true → bl b c = true → bl a c = true
  | a, b, [], _, h => by rw [bl_nil] at h; exact absurd h (by simp)
  | a, [], z :: c, h, _ => by rw [bl_nil] at h; exact absurd h (by simp)
  | [], y :: b, z :: c, _, _ => rfl
  | x :: a, y :: b, z :: c, h, k => by
    rw [bl_cons] at *
    rcases h with h | ⟨rfl, h⟩ <;> rcases k with k | ⟨rfl, k⟩
    · exact Or.inl (UInt8.lt_trans h k)
    · exact Or.inl h
    · exact Or.inl k
    · exact Or.inr ⟨rfl, bl_trans h k⟩
theorem bl_tri : ∀ (a b : List UInt8), a = b ∨ bl a b = true ∨ bl b a = true
  | [], [] => Or.inl rfl
  | [], _ :: _ => Or.inr (Or.inl rfl)
  | _ :: _, [] => Or.inr (Or.inr rfl)
  | x :: a, y :: b => by
    rw [bl_cons, bl_cons]
    rcases Nat.lt_trichotomy x.toNat y.toNat with h | h | h
    · exact Or.inr (Or.inl (Or.inl h))
    · have e : x = y := UInt8.toNat_inj.1 h
      subst e
      rcases bl_tri a b with rfl | k | k
      · exact Or.inl rfl
      · exact Or.inr (Or.inl (Or.inr ⟨rfl, k⟩))
      · exact Or.inr (Or.inr (Or.inr ⟨rfl, k⟩))
    · exact Or.inr (Or.inr (Or.inl h))
theorem bl_asymm {a b : List UInt8} (h : bl a b = true) : bl b a = false := by
  cases k : bl b a with
  | false => rfl
  | true => have := bl_trans h k; rw [bl_irrefl] at this; exact absurd this (by simp)
theorem bl_ne {a b : List UInt8} (h : bl a b = true) : a ≠ b := fun e => by rw [e, bl_irrefl] at h; exact absurd h (by simp)
theorem bl_not {a b : List UInt8} (h : bl a b = false) : b = a ∨ bl b a = true := by
  rcases bl_tri a b with e | k | k
  · exact Or.inl e.symm
  · rw [h] at k; exact absurd k (by simp)
  · exact Or.inr k

/-! ### lists by rising keys -/
section
variable {α : Type} (key : α → List UInt8)
/-- By rising keys, no two alike. -/
def Rising (l : List α) : Prop := l.Pairwise fun a b => bl (key a) (key b) = true
/-- How many are below a key. -/
def below (l : List α) (k : List UInt8) : Nat := l.countP fun a => bl (key a) k

variable {key}
theorem Rising.cons {a : α} {l : List α} (h : Rising key (a :: l)) : (∀ b ∈ l, bl (key a) (key b) = true) ∧ Rising key l := List.pairwise_cons.1 h
theorem below_le (l : List α) (k : List UInt8) : below key l k ≤ l.length := List.countP_le_length
/-- In a rising list just the first ones are below a key. -/
theorem Rising.below {l : List α} (h : Rising key l) (k : List UInt8) : ∀ (i : Nat) (hi : i < l.length), bl (key l[i]) k = true ↔ i < below key l k := by
  induction l with
  | nil => intro i hi; simp at hi
  | cons a l ih =>
    obtain ⟨h1, h2⟩ := h.cons
    intro i hi
    by_cases ha : bl (key a) k = true
    · have e : YtafciefjlkdecaaGreat.below key (a :: l) k = YtafciefjlkdecaaGreat.below key l k + 1 := by simp [YtafciefjlkdecaaGreat.below, ha]
      rw [e]
      cases i with
      | zero => simp [ha]
      | succ i => simpa using ih h2 i (by simpa using hi)
    · have e0 : YtafciefjlkdecaaGreat.below key l k = 0 := by
        rw [YtafciefjlkdecaaGreat.below, List.countP_eq_zero]
        intro b hb hbk
        exact ha (bl_trans (h1 b hb) hbk)
      have e : YtafciefjlkdecaaGreat.below key (a :: l) k = 0 := by
        rw [YtafciefjlkdecaaGreat.below, List.countP_cons, if_neg ha]
        exact e0
      rw [e]
      cases i with
      | zero => simp [ha]
      | succ i =>
        refine ⟨fun hb => absurd (bl_trans (h1 _ (List.getElem_mem (by simpa using hi))) ?_) ha, fun hb => by omega⟩
        simpa using hb
theorem Rising.lt {l : List α} (h : Rising key l) {i j : Nat} (hij : i < j) (hj : j < l.length) : bl (key (l[i]'(by omega))) (key l[j]) = true := List.pairwise_iff_getElem.1 h i j (by omega) hj hij
/-- Is a key there? -/
def hasKey (key : α → List UInt8) (l : List α) (k : List UInt8) : Bool := l.any fun a => key a == k
theorem hasKey_iff {l : List α} {k : List UInt8} : hasKey key l k = true ↔ ∃ a ∈ l, key a = k := by simp [hasKey]
theorem Rising.found {l : List α} (h : Rising key l) (k : List UInt8) : hasKey key l k = true ↔ ∃ hi : YtafciefjlkdecaaGreat.below key l k < l.length, key (l[YtafciefjlkdecaaGreat.below key l k]'hi) = k := by
  rw [hasKey_iff]
  constructor
  · rintro ⟨a, ha, rfl⟩
    obtain ⟨i, hi, rfl⟩ := List.getElem_of_mem ha
    have h1 : ¬ i < YtafciefjlkdecaaGreat.below key l (key l[i]) := by rw [← h.below _ i hi, bl_irrefl]; simp
    have h2 : ¬ YtafciefjlkdecaaGreat.below key l (key l[i]) < i := fun hlt => by
      have := (h.below (key l[i]) _ (by omega)).1 (h.lt hlt hi)
      omega
    have e : YtafciefjlkdecaaGreat.below key l (key l[i]) = i := by omega
    exact ⟨by omega, by simp [e]⟩
  · rintro ⟨hi, e⟩
    exact ⟨_, List.getElem_mem hi, e⟩
end

end Go.Proofs.YtafciefjlkdecaaGreat

namespace Go.Proofs.YtafciefjlkdecaaGreat
open Go.RowKit

def SlAt {α : Type} (enc : α → List Value) (k : Nat) (w : World) (ao : Option Addr) (l : List α) : Prop :=
  l = [] ∨ ∃ b off, ao = some ⟨b, off, none⟩ ∧ b < w.heap.size ∧ ∀ (i : Nat) (hi : i < l.length) (j : Nat) (x : Value), (enc l[i])[j]? = some x → w.cell? ⟨b, off + i * k + j, none⟩ = some x

section
variable {α : Type} {enc : α → List Value} {k : Nat} {w : World} {ao : Option Addr} {l : List α}
theorem SlAt.nil (enc : α → List Value) (k : Nat) (w : World) (ao : Option Addr) : SlAt enc k w ao [] := Or.inl rfl
theorem SlAt.at (h : SlAt enc k w ao l) (hl : 0 < l.length) : ∃ b off, ao = some ⟨b, off, none⟩ ∧ b < w.heap.size ∧ ∀ (i : Nat) (hi : i < l.length) (j : Nat) (x : Value), (enc l[i])[j]? = some x → w.cell? ⟨b, off + i * k + j, none⟩ = some x := by
  rcases h with rfl | h
  · simp at hl
  · exact h
theorem SlAt.kept (h : SlAt enc k w ao l) {w' : World} {B : Nat} (hb : Below B w w') (hB : w.heap.size ≤ B) : SlAt enc k w' ao l := by
  rcases h with rfl | ⟨b, off, rfl, hlt, hc⟩
  · exact Or.inl rfl
  · exact Or.inr ⟨b, off, rfl, Nat.lt_of_lt_of_le hlt hb.size, fun i hi j x hx => (hb.cell (p := ⟨b, off + i * k + j, none⟩) (Nat.lt_of_lt_of_le hlt hB)).trans (hc i hi j x hx)⟩
theorem SlAt.keptAt (h : SlAt enc k w ao l) {w' : World} (hs : w.heap.size ≤ w'.heap.size) (hc : ∀ b o, b < w.heap.size → w'.cell? ⟨b, o, none⟩ = w.cell? ⟨b, o, none⟩) : SlAt enc k w' ao l := by
  rcases h with rfl | ⟨b, off, rfl, hlt, hcc⟩
  · exact Or.inl rfl
  · exact Or.inr ⟨b, off, rfl, Nat.lt_of_lt_of_le hlt hs, fun i hi j x hx => (hc b _ hlt).trans (hcc i hi j x hx)⟩
theorem SlAt.cut (h : SlAt enc k w ao l) (n : Nat) : SlAt enc k w ao (l.take n) := by
  rcases h with rfl | ⟨b, off, rfl, hlt, hc⟩
  · exact Or.inl (by simp)
  · refine Or.inr ⟨b, off, rfl, hlt, fun i hi j x hx => hc i (by simp at hi; omega) j x ?_⟩
    simpa using hx
theorem SlAt.drop (h : SlAt enc k w ao l) (n : Nat) (b off : Nat) (ha : ao = some ⟨b, off, none⟩) : SlAt enc k w (some ⟨b, off + n * k, none⟩) (l.drop n) := by
  rcases h with rfl | ⟨b', off', h', hlt, hc⟩
  · exact Or.inl (by simp)
  · rw [ha] at h'
    obtain ⟨rfl, rfl⟩ : b = b' ∧ off = off' := by simpa using h'
    refine Or.inr ⟨b, _, rfl, hlt, fun i hi j x hx => ?_⟩
    have hi' : n + i < l.length := by simp at hi; omega
    have := hc (n + i) hi' j x (by simpa using hx)
    rw [show off + n * k + i * k + j = off + (n + i) * k + j by rw [Nat.add_mul]; omega]
    exact this
/-- A row that was just laid. -/
theorem SlAt.new (w : World) (c : Array Value) (e : TypeId) (fz : Nat × Nat) (l : List α) (hlen : ∀ x ∈ l, (enc x).length = k) (hc : c.toList = l.flatMap enc) : SlAt enc k (w.alloc (.cells c e fz)) (some ⟨w.heap.size, 0, none⟩) l := by
  refine Or.inr ⟨w.heap.size, 0, rfl, by simp, fun i hi j x hx => ?_⟩
  rw [cell_new, ← Array.getElem?_toList, hc]
  have key : ∀ (l : List α) (i : Nat) (hi : i < l.length), (∀ x ∈ l, (enc x).length = k) → ∀ j x, (enc l[i])[j]? = some x → (l.flatMap enc)[0 + i * k + j]? = some x := by
    intro l
    induction l with
    | nil => intro i hi; simp at hi
    | cons a t ih =>
      intro i hi hlen j x hx
      have ha := hlen a (by simp)
      cases i with
      | zero =>
        simp only [List.flatMap_cons, Nat.zero_mul, Nat.zero_add]
        have hj : j < (enc a).length := (List.getElem?_eq_some_iff.1 hx).1
        rw [List.getElem?_append_left hj]
        exact hx
      | succ i =>
        simp only [List.flatMap_cons]
        rw [List.getElem?_append_right (by rw [ha, Nat.add_mul]; omega)]
        have := ih i (by simpa using hi) (fun x hx => hlen x (by simp [hx])) j x (by simpa using hx)
        rw [← this, ha]
        congr 1
        rw [Nat.add_mul]; omega
  exact key l i hi hlen j x hx
end

end Go.Proofs.YtafciefjlkdecaaGreat

namespace Go.Proofs.YtafciefjlkdecaaGreat

structure Upd where
  kind : Nat
  key : List UInt8
  val : List UInt8
  delta : Nat

namespace Upd
/-- Whether an update may be: 0, or the error's number. -/
def check (u : Upd) : Nat :=
  if u.key.length < 1 ∨ 16 < u.key.length ∨ 32 < u.val.length then 13
  else if u.kind < 1 ∨ 3 < u.kind ∨ (u.kind ≠ 1 ∧ u.val ≠ []) ∨ (u.kind ≠ 3 ∧ u.delta ≠ 0) then 2 else 0
theorem check_ok {u : Upd} (h : u.check = 0) : 1 ≤ u.key.length ∧ u.key.length ≤ 16 ∧ u.val.length ≤ 32 ∧ 1 ≤ u.kind ∧ u.kind ≤ 3 ∧ (u.kind = 1 ∨ u.val = []) ∧ (u.kind = 3 ∨ u.delta = 0) := by
  unfold check at h
  split at h
  · simp at h
  · split at h
    · simp at h
    · rename_i h1 h2
      have e1 : ¬ (u.kind ≠ 1 ∧ u.val ≠ []) := fun e => h2 (Or.inr (Or.inr (Or.inl e)))
      have e2 : ¬ (u.kind ≠ 3 ∧ u.delta ≠ 0) := fun e => h2 (Or.inr (Or.inr (Or.inr e)))
      refine ⟨by omega, by omega, by omega, by omega, by omega, ?_, by omega⟩
      by_cases hk : u.kind = 1
      · exact Or.inl hk
      · refine Or.inr ?_
        by_cases hv : u.val = []
        · exact hv
        · exact (e1 ⟨hk, hv⟩).elim
end Upd

end Go.Proofs.YtafciefjlkdecaaGreat

namespace Go.Proofs.YtafciefjlkdecaaGreat
open Go.RowKit

/-- An update's cells. -/
def Upd.cells (u : Upd) : List Value := [.int .u8 u.kind, .string (S u.key), .string (S u.val), .int .u64 u.delta]
/-- It is one that a variable may hold. -/
def Upd.Wf (u : Upd) : Prop := u.kind < 256 ∧ u.delta < 18446744073709551616
/-- Its bytes, if it may be. -/
def Upd.bytes (u : Upd) : List UInt8 :=
  [UInt8.ofNat u.kind, UInt8.ofNat u.key.length] ++ u.key ++ (if u.kind = 1 then [UInt8.ofNat u.val.length] ++ u.val else []) ++ (if u.kind = 3 then le u.delta 8 else [])
/-- The bytes of some, one behind the other, or none and the error of the first that may not be. -/
def textAcc : List UInt8 → List Upd → List UInt8 × Nat
  | acc, [] => (acc, 0)
  | acc, u :: r => if u.check = 0 then textAcc (acc ++ u.bytes) r else ([], u.check)

theorem updCells {w : World} {b off : Nat} {l : List Upd} (h : ∀ (i : Nat) (hi : i < l.length) (j : Nat) (x : Value), (Upd.cells l[i])[j]? = some x → w.cell? ⟨b, off + i * 4 + j, none⟩ = some x) (i : Nat) (hi : i < l.length) :
    w.cell? ⟨b, off + i * 4, none⟩ = some (.int .u8 l[i].kind) ∧ w.cell? ⟨b, off + i * 4 + 1, none⟩ = some (.string (S l[i].key)) ∧ w.cell? ⟨b, off + i * 4 + 2, none⟩ = some (.string (S l[i].val)) ∧ w.cell? ⟨b, off + i * 4 + 3, none⟩ = some (.int .u64 l[i].delta) :=
  ⟨h i hi 0 _ rfl, h i hi 1 _ rfl, h i hi 2 _ rfl, h i hi 3 _ rfl⟩

end Go.Proofs.YtafciefjlkdecaaGreat

namespace Go.Proofs.YtafciefjlkdecaaGreat
open Go.RowKit

structure Ent where
  key : List UInt8
  val : List UInt8

/-- An entry's cells. -/
def Ent.cells (u : Ent) : List Value := [.string (S u.key), .string (S u.val)]
/-- Its bytes. -/
def Ent.bytes (u : Ent) : List UInt8 := [UInt8.ofNat u.key.length] ++ u.key ++ [UInt8.ofNat u.val.length] ++ u.val
def entText (l : List Ent) : List UInt8 := l.flatMap Ent.bytes

theorem entCells {w : World} {b off : Nat} {l : List Ent} (h : ∀ (i : Nat) (hi : i < l.length) (j : Nat) (x : Value), (Ent.cells l[i])[j]? = some x → w.cell? ⟨b, off + i * 2 + j, none⟩ = some x) (i : Nat) (hi : i < l.length) :
    w.cell? ⟨b, off + i * 2, none⟩ = some (.string (S l[i].key)) ∧ w.cell? ⟨b, off + i * 2 + 1, none⟩ = some (.string (S l[i].val)) :=
  ⟨h i hi 0 _ rfl, h i hi 1 _ rfl⟩

end Go.Proofs.YtafciefjlkdecaaGreat

namespace Go.Proofs.YtafciefjlkdecaaGreat
open Go.RowKit

/-- -1, 0 or 1: as one text is ahead of, like, or behind another one. -/
def cmpZ (a b : List UInt8) : Int := if bl a b = true then -1 else if a = b then 0 else 1
theorem cmpZ_lt {a b : List UInt8} (h : bl a b = true) : cmpZ a b = -1 := by rw [cmpZ, if_pos h]
theorem cmpZ_eq (a : List UInt8) : cmpZ a a = 0 := by rw [cmpZ, bl_irrefl]; simp
theorem cmpZ_gt {a b : List UInt8} (h : bl b a = true) : cmpZ a b = 1 := by
  rw [cmpZ, bl_asymm h, if_neg (by simp), if_neg (fun e => bl_ne h e.symm)]
theorem cmpZ_ge {a b : List UInt8} (h : bl a b = false) : 0 ≤ cmpZ a b := by
  rw [cmpZ, h]; simp; split <;> omega
theorem cmpZ_range (a b : List UInt8) : -1 ≤ cmpZ a b ∧ cmpZ a b ≤ 1 := by unfold cmpZ; repeat' split
                                                                           all_goals omega
theorem cmpZ_zero {a b : List UInt8} : cmpZ a b = 0 ↔ a = b := by
  unfold cmpZ
  split
  · rename_i h
    simp
    exact bl_ne h
  · split <;> simp_all

set_option maxHeartbeats 400000 in
theorem isNaN_any (a : List UInt8) (w : World) : Calls Tryz.prog 157 #[.string (S a)] w fun e w' => e = .returned (.bool false) ∧ w = w' := by
  go_enter Tryz.func157, Tryz.ntmps157
  go_wp2
  go_ret
  exact ⟨rfl, rfl⟩

set_option maxHeartbeats 400000 in
theorem compare_any (a b : List UInt8) (w : World) : Calls Tryz.prog 120 #[.string (S a), .string (S b)] w fun e w' => e = .returned (.int .i64 (cmpZ a b)) ∧ w = w' := by
  rcases bl_tri a b with rfl | h | h
  · have h1 := bl_irrefl a
    have hz := Lib.hid (cmpZ_eq a)
    go_enter Tryz.func120, Tryz.ntmps120
    go_wp2_with (go_at_call 157; refine (isNaN_any _ _).mono ?_; rintro e w' ⟨rfl, rfl⟩)
    go_ret
    exact ⟨ret_int hz.out.symm, rfl⟩
  · have hz := Lib.hid (cmpZ_lt h)
    go_enter Tryz.func120, Tryz.ntmps120
    go_wp2_with (go_at_call 157; refine (isNaN_any _ _).mono ?_; rintro e w' ⟨rfl, rfl⟩)
    go_ret
    exact ⟨ret_int hz.out.symm, rfl⟩
  · have h1 := bl_asymm h
    have h2 : (a == b) = false := by simpa using fun e => bl_ne h e.symm
    have hz := Lib.hid (cmpZ_gt h)
    go_enter Tryz.func120, Tryz.ntmps120
    go_wp2_with (go_at_call 157; refine (isNaN_any _ _).mono ?_; rintro e w' ⟨rfl, rfl⟩)
    go_ret
    exact ⟨ret_int hz.out.symm, rfl⟩

end Go.Proofs.YtafciefjlkdecaaGreat

namespace Go.Proofs.YtafciefjlkdecaaGreat
open Go.RowKit

set_option maxHeartbeats 400000 in
theorem find1U (u : Upd) (k : List UInt8) (w : World) :
    Calls Tryz.prog 124 #[.agg #[.int .u8 u.kind, .string (S u.key), .string (S u.val), .int .u64 u.delta], .string (S k)] w fun e w' => e = .returned (.int .i64 (cmpZ u.key k)) ∧ Below w.heap.size w w' := by
  go_enter Tryz.func124, Tryz.ntmps124
  go_wp2_with (go_at_call 120; refine (compare_any _ _ _).mono ?_; rintro e w' ⟨rfl, rfl⟩)
  go_ret
  exact ⟨rfl, by go_grown⟩

set_option maxRecDepth 100000 in
set_option maxHeartbeats 2000000 in
theorem searchU (ao : Option Addr) (c : Nat) (l : List Upd) (k : List UInt8) (w : World) (hs : SlAt Upd.cells 4 w ao l) (hl : l.length ≤ 1000000) (hr : Rising Upd.key l) :
    Calls Tryz.prog 123 #[.slice ao l.length c, .string (S k), .func (.func 124) #[] #[]] w fun e w' => e = .returned (.tuple #[.int .i64 (below Upd.key l k : Nat), .bool (hasKey Upd.key l k)]) ∧ Below w.heap.size w w' := by
  have hbl := below_le (key := Upd.key) l k
  go_enter Tryz.func123, Tryz.ntmps123
  go_wp2_with fail
  go_loopw [9, 10] (fun i j wr => ∃ a b : Nat, i = .int .i64 a ∧ j = .int .i64 b ∧ a ≤ below Upd.key l k ∧ below Upd.key l k ≤ b ∧ b ≤ l.length ∧ Below w.heap.size w wr) (fun i j _ => (intOf j).toNat - (intOf i).toNat)
  case atStart => exact ⟨0, l.length, rfl, rfl, Nat.zero_le _, hbl, Nat.le_refl _, Below.refl _ _⟩
  case round =>
    obtain ⟨a, b, rfl, rfl, ha, hb, hbn, hB⟩ := hrel
    have hB0 := hB.size
    by_cases hab : a < b
    · have hab' : (a : Int) < (b : Int) := by omega
      have hh : (a + b) / 2 < l.length := by omega
      obtain ⟨bk, off, rfl, hbk, hcs⟩ := (hs.kept hB (Nat.le_refl _)).at (by omega)
      obtain ⟨c0, c1, c2, c3⟩ := updCells hcs ((a + b) / 2) hh
      have hR := hr.below k ((a + b) / 2) hh
      clear hcs
      generalize l[(a + b) / 2] = u at *
      have hi0 : (0 : Int) ≤ ((a : Int) + (b : Int)) / 2 := by omega
      have hi1 : ((a : Int) + (b : Int)) / 2 < (l.length : Int) := by omega
      cases hq : bl u.key k with
      | true =>
        have hz := cmpZ_lt hq
        have hlt : (a + b) / 2 < below Upd.key l k := hR.1 hq
        clear hR hq
        go_wp2_with (go_at_call 124; refine (thread (find1U u k _) w.heap.size w (by go_grown) (by go_grown)).mono ?_; rw [hz]; rintro e w1 ⟨rfl, hB1, -, -, hs1, hz1⟩)
        go_roundw
        case rel => exact ⟨(a + b) / 2 + 1, b, by go_num, rfl, by omega, hb, hbn, hB1⟩
        case measure => simp [intOf]; omega
      | false =>
        have hz := cmpZ_ge hq
        have hge : below Upd.key l k ≤ (a + b) / 2 := by
          have := mt hR.2 (by rw [hq]; simp)
          omega
        clear hR hq
        have hzz : ∃ z, Hid (cmpZ u.key k = z) ∧ ¬ z < 0 := ⟨_, Lib.hid rfl, by omega⟩
        obtain ⟨z, hzz, hz0⟩ := hzz
        clear hz
        go_wp2_with (go_at_call 124; refine (thread (find1U u k _) w.heap.size w (by go_grown) (by go_grown)).mono ?_; rw [hzz.out]; rintro e w1 ⟨rfl, hB1, -, -, hs1, hz1⟩)
        go_roundw
        case rel => exact ⟨a, (a + b) / 2, rfl, by go_num, ha, hge, by omega, hB1⟩
        case measure => simp [intOf]; omega
    · have hab' : ¬ (a : Int) < (b : Int) := by omega
      obtain rfl : a = below Upd.key l k := by omega
      have hf := hr.found k
      by_cases hin : below Upd.key l k < l.length
      · obtain ⟨bk, off, rfl, hbk, hcs⟩ := (hs.kept hB (Nat.le_refl _)).at (by omega)
        obtain ⟨c0, c1, c2, c3⟩ := updCells hcs _ hin
        clear hcs hr hs
        have hin' : ((below Upd.key l k : Nat) : Int) < (l.length : Int) := by omega
        have hin0 : (0 : Int) ≤ ((below Upd.key l k : Nat) : Int) := by omega
        generalize hu : l[below Upd.key l k] = u at *
        by_cases he : u.key = k
        · have hk : Hid (hasKey Upd.key l k = true) := Lib.hid (hf.2 ⟨hin, by rw [hu]; exact he⟩)
          have hz := cmpZ_zero.2 he
          clear hf hu he
          generalize hidx : below Upd.key l k = i at *
          have hidx' := Lib.hid hidx
          clear hidx
          go_wp2_with (go_at_call 124; refine (thread (find1U u k _) w.heap.size w (by go_grown) (by go_grown)).mono ?_; rw [hz]; rintro e w1 ⟨rfl, hB1, -, -, hs1, hz1⟩)
          go_ret2
          exact ⟨ret_val (by rw [hidx'.out, hk.out]; rfl), hB1⟩
        · have hk : Hid (hasKey Upd.key l k = false) := Lib.hid (by
            rw [← Bool.not_eq_true, hf]
            rintro ⟨h1, h2⟩
            exact he (by rw [← hu]; exact h2))
          have hz : (cmpZ u.key k == 0) = false := by rw [beq_eq_false_iff_ne]; exact mt cmpZ_zero.1 he
          clear hf hu he
          generalize hidx : below Upd.key l k = i at *
          have hidx' := Lib.hid hidx
          clear hidx
          go_wp2_with (go_at_call 124; refine (thread (find1U u k _) w.heap.size w (by go_grown) (by go_grown)).mono ?_; rintro e w1 ⟨rfl, hB1, -, -, hs1, hz1⟩)
          go_ret2
          exact ⟨ret_val (by rw [hidx'.out, hk.out]; rfl), hB1⟩
      · have hk : Hid (hasKey Upd.key l k = false) := Lib.hid (by
          rw [← Bool.not_eq_true, hf]
          rintro ⟨h1, h2⟩
          exact hin h1)
        have hin' : ¬ ((below Upd.key l k : Nat) : Int) < (l.length : Int) := by omega
        clear hf hr hs
        generalize hidx : below Upd.key l k = i at *
        have hidx' := Lib.hid hidx
        clear hidx
        go_wp2_with fail
        go_ret2
        exact ⟨ret_val (by rw [hidx'.out, hk.out]; rfl), hB⟩

end Go.Proofs.YtafciefjlkdecaaGreat

namespace Go.Proofs.YtafciefjlkdecaaGreat
open Go.RowKit

section
variable {P : Program} (w : World)
/-- 'copy(d, s)' of elements of k cells, into a row that is known whole. -/
theorem run_copyK (dT sT ty elem : TypeId) (k g o dLen dCap : Nat) (a : Addr) (sLen sCap : Nat) (cur : Array Value) (t : TypeId) (cs : List Value) (m : Nat)
    (hu : P.underlying dT = some (.slice elem)) (hs : (P.info? elem).map (·.size) = some k)
    (hg : w.heap[g]? = some (.cells cur t (0, 0))) (hm : Nat.min sLen dLen = m) (hn : cs.length = m * k)
    (hsrc : ∀ j v, cs[j]? = some v → w.cell? (a.add j) = some v) (hfit : o + cs.length ≤ cur.size) (h1 : ∀ v ∈ cs, v.oneCell' = true) :
    (Builtin.copy_ #[dT, sT] ty #[.slice (some ⟨g, o, none⟩) dLen dCap, .slice (some a) sLen sCap]).run P w =
      .ok (goInt m) (w.setRow g (cur.toList.take o ++ cs ++ cur.toList.drop (o + cs.length)).toArray) := by
  have hst := run_storeCells_at P g o t cs 0 cur w hg (by simpa using hfit) h1
  cases hq : P.info? elem with
  | none => simp [hq] at hs
  | some i =>
    have hi : i.size = k := by simpa [hq] using hs
    have hf := run_firstCells_some (P := P) w k m a sLen sCap cs hn hsrc
    simp [Builtin.copy_, run_underlying hu, Builtin.lenOf, sizeOf, typeInfo, hq, hi, hm, hf, hst]
end

/-- The operation, where its run is known by an equation. -/
theorem wpList_copy_eq {P : Program} (w : World) {ops : Array Oper} {rest : List Oper} {o : Oper} {a : Act} {Q : Exit → Act → World → Prop} (hgd : o.guard = none) (d s : Operand) (t t' : TypeId)
    (ho : o.op = .call { callee := .builtin .copy, args := #[d, s], argTypes := #[t, t'] }) (v u : Value) (hd : a.eval d = v) (hs : a.eval s = u) {v' : Value} {w' : World}
    (hr : (Builtin.copy_ #[t, t'] o.type #[v, u]).run P w = .ok v' w') (h : wpList P ops Q rest (a.put o.dst v') w') : wpList P ops Q (o :: rest) a w := by
  refine wpList_plain hgd fun K hK => ?_
  unfold Oper.wp
  simp only [execOp, ho, resolve, invoke, builtin, Sem.run_bind, Sem.run_pure, Result.andThen_ok, List.map_toArray, List.map_cons, List.map_nil, hd, hs, hr]
  exact hK _ _ h
/-- .. and as one step of a region that draws. -/
theorem step_copy_eq {P : Program} {ops : Array Oper} {o : Oper} {a : Act} {w : World} {K : Act → World → Prop} {Q : Exit → Act → World → Prop} {E : Prop}
    (hg : o.guard = none) (d x : Operand) (dT sT : TypeId) (hop : o.op = Op.call { callee := Callee.builtin Builtin.copy, args := #[d, x], argTypes := #[dT, sT] })
    (v u : Value) (hd : a.eval d = v) (hx : a.eval x = u) {v' : Value} {w' : World} (hr : (Builtin.copy_ #[dT, sT] o.type #[v, u]).run P w = .ok v' w') (hK : K (a.put o.dst v') w') :
    if Region.wanted o (yielded ops a.tmps) = true then Oper.wp P o a w K Q else E := by
  have hw : Region.wanted o (yielded ops a.tmps) = true := by simp [Region.wanted, hg]
  rw [if_pos hw]
  unfold Oper.wp
  simp [execOp, hop, resolve, invoke, builtin, hd, hx, hr, Result.andThen]
  exact hK

/-- A row that is known whole: block g of elements of type E. -/
def RowIs (w : World) (E : TypeId) (g : Nat) (cur : List Value) : Prop := w.heap[g]? = some (.cells cur.toArray E (0, 0))
theorem RowIs.lt {w : World} {E : TypeId} {g : Nat} {cur : List Value} (h : RowIs w E g cur) : g < w.heap.size := (Array.getElem?_eq_some_iff.1 h).1
theorem RowIs.cell {w : World} {E : TypeId} {g : Nat} {cur : List Value} (h : RowIs w E g cur) (j : Nat) : w.cell? ⟨g, j, none⟩ = cur[j]? := by
  rw [cell_of_row w g j _ _ _ h, List.getElem?_toArray]
theorem RowIs.frozen {w : World} {E : TypeId} {g : Nat} {cur : List Value} (h : RowIs w E g cur) (j : Nat) : w.frozen? ⟨g, j, none⟩ = false := frozen_of_row w g j _ E h
theorem RowIs.set {w : World} {E : TypeId} {g : Nat} {cur : List Value} (h : RowIs w E g cur) (new : List Value) : RowIs (w.setRow g new.toArray) E g new := setRow_heap w g _ _ E _ h
theorem RowIs.drew {w : World} {E : TypeId} {g : Nat} {cur : List Value} (h : RowIs w E g cur) : RowIs w.drew E g cur := h
theorem RowIs.new (w : World) (E : TypeId) (cur : List Value) : RowIs (w.alloc (.cells cur.toArray E)) E w.heap.size cur := heap_alloc_new w _
theorem RowIs.alloc {w : World} {E : TypeId} {g : Nat} {cur : List Value} (h : RowIs w E g cur) (o : Obj) : RowIs (w.alloc o) E g cur := (heap_alloc_old w o h.lt).trans h
theorem RowIs.shape {w : World} {E : TypeId} {g : Nat} {cur : List Value} (h : RowIs w E g cur) : w.shape? g = some (E, cur.length) := by
  unfold World.shape?
  rw [show w.heap[g]? = _ from h]
  simp
theorem grown_setRow (w : World) (g : Nat) (new : Array Value) : w.grownBy (w.setRow g new) (some g) :=
  ⟨rfl, rfl, rfl, by simp [World.setRow], fun k _ hk => setRow_other w g k new (fun e => hk (by rw [e]))⟩
theorem World.grownBy.trans' {a b c : World} {r : Option Nat} (h : a.grownBy b r) (k : b.grownBy c r) : a.grownBy c r :=
  ⟨k.os.trans h.os, k.tape.trans h.tape, k.output.trans h.output, Nat.le_trans h.size k.size, fun i hi hr => (k.block i (Nat.lt_of_lt_of_le hi h.size) hr).trans (h.block i hi hr)⟩

theorem below_grown_new {w w1 : World} {o : Obj} {r : Option Nat} (h : (w.alloc o).grownBy w1 r) (hr : ∀ k, r = some k → w.heap.size ≤ k) : Below w.heap.size w w1 :=
  ⟨h.os, h.tape, h.output, Nat.le_trans (by simp) h.size, fun k hk => (h.block k (by simp; omega) (fun e => by have := hr k e.symm; omega)).trans (Below.heap_alloc _ _ _ hk)⟩
theorem below_grown {B : Nat} {w0 w w1 : World} {r : Option Nat} (hb : Below B w0 w) (h : w.grownBy w1 r) (hr : ∀ k, r = some k → B ≤ k) (hB : B ≤ w.heap.size) : Below B w0 w1 :=
  hb.trans ⟨h.os, h.tape, h.output, h.size, fun k hk => h.block k (by omega) (fun e => by have := hr k e.symm; omega)⟩
/-- A row of the call's own, opened: nil and nothing, or a block known whole. -/
theorem ownsRow_open {w : World} {B : Nat} {E : TypeId} {k : Nat} {v : Value} {n : Nat} {xs : List Value} (h : w.ownsRow B E k v n xs) :
    (v = .slice none 0 0 ∧ n = 0 ∧ xs = []) ∨ ∃ g cap cur, v = .slice (some ⟨g, 0, none⟩) n cap ∧ B ≤ g ∧ RowIs w E g cur ∧ n ≤ cap ∧ cap ≤ maxLen ∧ cur.length = cap * k ∧ cur.take (n * k) = xs := by
  obtain ⟨hl, ⟨rfl, rfl⟩ | ⟨g, cap, cur, rfl, h1, h2, h3, h4, h5, h6⟩⟩ := h
  · exact Or.inl ⟨rfl, rfl, List.eq_nil_of_length_eq_zero (by rw [hl]; omega)⟩
  · exact Or.inr ⟨g, cap, cur.toList, rfl, h1, by unfold RowIs; rw [h2, Array.toArray_toList], h3, h4, by simpa using h5, h6⟩
theorem ownsRow_shut {w : World} {B : Nat} {E : TypeId} {k g n cap : Nat} {cur xs : List Value} (h1 : B ≤ g) (h2 : RowIs w E g cur) (h3 : n ≤ cap) (h4 : cap ≤ maxLen) (h5 : cur.length = cap * k) (h6 : cur.take (n * k) = xs) :
    w.ownsRow B E k (.slice (some ⟨g, 0, none⟩) n cap) n xs := by
  refine ⟨?_, Or.inr ⟨g, cap, cur.toArray, rfl, h1, h2, h3, h4, by simpa using h5, by simpa using h6⟩⟩
  rw [← h6, List.length_take, h5]
  exact Nat.min_eq_left (Nat.mul_le_mul_right k h3)

theorem RowIs.kept {w w' : World} {E : TypeId} {g : Nat} {cur : List Value} {r : Option Nat} (h : RowIs w E g cur) (hg : w.grownBy w' r) (hne : some g ≠ r) : RowIs w' E g cur := (hg.block g h.lt hne).trans h
theorem RowIs.cells {w : World} {E : TypeId} {g : Nat} {cur : List Value} (h : RowIs w E g cur) (o : Nat) (cs : List Value) (hc : ∀ j v, cs[j]? = some v → cur[o + j]? = some v) : ∀ j v, cs[j]? = some v → w.cell? ((⟨g, o, none⟩ : Addr).add j) = some v := by
  intro j v hv
  rw [show (⟨g, o, none⟩ : Addr).add j = ⟨g, o + j, none⟩ by simp [Addr.add], h.cell]
  exact hc j v hv
/-- A row with some cells laid over it. -/
def over (cur : List Value) (o : Nat) (cs : List Value) : List Value := cur.take o ++ (cs ++ cur.drop (o + cs.length))

/-- 'copy(d, s)' at the operation. -/
theorem wpList_copyK {P : Program} (w : World) {ops : Array Oper} {rest : List Oper} {o : Oper} {a : Act} {Q : Exit → Act → World → Prop} (hgd : o.guard = none) (d s : Operand) (t t' : TypeId)
    (ho : o.op = .call { callee := .builtin .copy, args := #[d, s], argTypes := #[t, t'] }) (E : TypeId) (k : Nat) (hu : P.underlying t = some (.slice E)) (hs : (P.info? E).map (·.size) = some k)
    (g off dLen dCap : Nat) (ad : Addr) (sLen sCap : Nat) (hd : a.eval d = .slice (some ⟨g, off, none⟩) dLen dCap) (hsr : a.eval s = .slice (some ad) sLen sCap) (cur cs : List Value) (m : Nat)
    (hrow : RowIs w E g cur) (hm : Nat.min sLen dLen = m) (hn : cs.length = m * k) (hsrc : ∀ j v, cs[j]? = some v → w.cell? (ad.add j) = some v) (hfit : off + cs.length ≤ cur.length) (h1 : ∀ v ∈ cs, v.oneCell' = true)
    (h : ∀ w', RowIs w' E g (over cur off cs) → w.grownBy w' (some g) → wpList P ops Q rest (a.put o.dst (goInt m)) w') : wpList P ops Q (o :: rest) a w := by
  have hr := run_copyK (P := P) w t t' o.type E k g off dLen dCap ad sLen sCap cur.toArray E cs m hu hs hrow hm hn hsrc (by simpa using hfit) h1
  refine wpList_copy_eq w hgd d s t t' ho _ _ hd hsr hr (h _ ?_ (grown_setRow _ _ _))
  have := hrow.set (over cur off cs)
  simpa [over] using this
theorem step_copyK {P : Program} {ops : Array Oper} {o : Oper} {a : Act} {w : World} {K : Act → World → Prop} {Q : Exit → Act → World → Prop} {E0 : Prop}
    (hgd : o.guard = none) (d s : Operand) (t t' : TypeId) (ho : o.op = Op.call { callee := Callee.builtin Builtin.copy, args := #[d, s], argTypes := #[t, t'] }) (E : TypeId) (k : Nat) (hu : P.underlying t = some (.slice E)) (hs : (P.info? E).map (·.size) = some k)
    (g off dLen dCap : Nat) (ad : Addr) (sLen sCap : Nat) (hd : a.eval d = .slice (some ⟨g, off, none⟩) dLen dCap) (hsr : a.eval s = .slice (some ad) sLen sCap) (cur cs : List Value) (m : Nat)
    (hrow : RowIs w E g cur) (hm : Nat.min sLen dLen = m) (hn : cs.length = m * k) (hsrc : ∀ j v, cs[j]? = some v → w.cell? (ad.add j) = some v) (hfit : off + cs.length ≤ cur.length) (h1 : ∀ v ∈ cs, v.oneCell' = true)
    (h : ∀ w', RowIs w' E g (over cur off cs) → w.grownBy w' (some g) → K (a.put o.dst (goInt m)) w') :
    if Region.wanted o (yielded ops a.tmps) = true then Oper.wp P o a w K Q else E0 := by
  have hr := run_copyK (P := P) w t t' o.type E k g off dLen dCap ad sLen sCap cur.toArray E cs m hu hs hrow hm hn hsrc (by simpa using hfit) h1
  refine step_copy_eq hgd d s t t' ho _ _ hd hsr hr (h _ ?_ (grown_setRow _ _ _))
  have := hrow.set (over cur off cs)
  simpa [over] using this

theorem zeroCells_len (z : Array Value) (k : Nat) : (Builtin.zeroCells z k).size = k * z.size := by simp [Builtin.zeroCells]
/-- 'append(s, make([]T, m)...)' without room, at the operation. -/
theorem wpList_append_zeros {P : Program} (w : World) {ops : Array Oper} {rest : List Oper} {o : Oper} {a : Act} {Q : Exit → Act → World → Prop} (hgd : o.guard = none) (s x : Operand) (t tn : TypeId)
    (ho : o.op = .call { callee := .builtin .append, args := #[s, x], argTypes := #[t, tn] }) (E : TypeId) (i : TypeInfo) (z : Value) (k bytes : Nat) (ht : P.underlying t = some (.slice E)) (htn : P.underlying tn = some (.int .i64)) (hi : P.info? E = some i) (hz : i.zero = some z)
    (hk : i.size = k) (hby : i.bytes = bytes) (hzs : z.cells.size = k) (hk0 : 0 < k) (hb0 : bytes ≤ 1000) (b n cap : Nat) (cur : List Value) (hrow : RowIs w E b cur) (hs : a.eval s = .slice (some ⟨b, 0, none⟩) n cap) (m : Nat) (hx : a.eval x = .int .i64 (m : Int))
    (hfit : n * k ≤ cur.length) (hm : 0 < m) (hroom : cap < n + m) (tot : Nat) (htot : n + m = tot) (hsmall : n + m ≤ 4000000)
    (h : ∀ w' G zs, RowIs w' E w.heap.size (cur.take (n * k) ++ zs) → zs.length = (G - n) * k → tot ≤ G → G ≤ maxLen → w.grownBy w' none → wpList P ops Q rest (a.put o.dst (.slice (some ⟨w.heap.size, 0, none⟩) tot G)) w') :
    wpList P ops Q (o :: rest) a w := by
  subst hk hby htot
  have hold : (Builtin.firstCells i.size n (.slice (some ⟨b, 0, none⟩) n cap)).run P w.drew = .ok (cur.take (n * i.size)).toArray w.drew :=
    run_firstCells_some w.drew i.size n ⟨b, 0, none⟩ n cap (cur.take (n * i.size)) (by rw [List.length_take]; omega) (hrow.drew.cells 0 _ fun j v hv => by
      rw [List.getElem?_take] at hv
      split at hv
      · rw [Nat.zero_add]; exact hv
      · simp at hv)
  have hcap : Builtin.nextslicecap (n + m) cap * i.bytes ≤ 281474976710656 := growslice_fits hroom (by
    have : (n + m) * i.bytes ≤ 4000000 * 1000 := Nat.mul_le_mul hsmall hb0
    omega)
  have hr := Lib.run_append_grow_zeros (P := P) w t tn o.type E i z .i64 .i64 ht htn hi hz (some ⟨b, 0, none⟩) n cap (cur.take (n * i.size)) hold m hm hk0 hroom (by omega) (by
    have : m * i.bytes ≤ 4000000 * 1000 := Nat.mul_le_mul (by omega) hb0
    omega) hcap
  have hG := grownCap_ge w (n + m) cap E
  have hGm := grownCap_le_maxLen w (n + m) cap E (by unfold maxLen; omega)
  generalize grownCap w (n + m) cap E = G at *
  refine Lib.wpList_append_run w hgd s x t tn ho _ _ hs hx _ _ hr (h _ G ((Builtin.zeroCells z.cells m).toList ++ (Builtin.zeroCells z.cells (G - (n + m))).toList) ?_ ?_ hG hGm ⟨rfl, rfl, rfl, by simp [World.alloc], fun j hj _ => heap_alloc_old w.drew _ hj⟩)
  · have e : (cur.take (n * i.size)).toArray ++ Builtin.zeroCells z.cells m ++ Builtin.zeroCells z.cells (G - (n + m)) = (cur.take (n * i.size) ++ ((Builtin.zeroCells z.cells m).toList ++ (Builtin.zeroCells z.cells (G - (n + m))).toList)).toArray := by
      apply Array.ext'; simp
    rw [e]
    exact RowIs.new w.drew E _
  · rw [List.length_append, Array.length_toList, Array.length_toList, zeroCells_len, zeroCells_len, hzs, ← Nat.add_mul]
    congr 1; omega

theorem over_len {cur cs : List Value} {o : Nat} (h : o + cs.length ≤ cur.length) : (over cur o cs).length = cur.length := by simp [over]; omega
/-- Laid behind the first ones. -/
theorem over_behind (P Z cs : List Value) (o : Nat) (ho : P.length = o) : over (P ++ Z) o cs = P ++ (cs ++ Z.drop cs.length) := by
  subst ho
  simp [over, List.drop_append]
/-- Two laid one behind the other. -/
theorem over_two (P Z cs ds : List Value) (o m : Nat) (ho : P.length = o) (hm : o + cs.length = m) (n : Nat) (hn : m + ds.length = n) : (over (over (P ++ Z) o cs) m ds).take n = P ++ (cs ++ ds) := by
  rw [over_behind P Z cs o ho, ← List.append_assoc, over_behind (P ++ cs) _ ds m (by simp; omega), ← List.append_assoc, List.take_append_of_le_length (by simp; omega), List.take_of_length_le (by simp; omega)]
  simp
/-- Moved up, and one put into the gap. -/
theorem over_gap (P Q R X : List Value) (o m : Nat) (ho : P.length = o) (hm : o + X.length = m) (n : Nat) (hn : m + Q.length = n) (hR : X.length ≤ R.length) : (over (over (P ++ (Q ++ R)) m Q) o X).take n = P ++ (X ++ Q) := by
  have hT : ((P ++ (Q ++ R)).take m).length = m := by rw [List.length_take]; simp; omega
  have e1 : over (P ++ (Q ++ R)) m Q = (P ++ (Q ++ R)).take m ++ (Q ++ (P ++ (Q ++ R)).drop (m + Q.length)) := rfl
  have e2 : (P ++ (Q ++ R)).take m = P ++ (Q ++ R).take X.length := by rw [← hm, ← ho, List.take_length_add_append]
  rw [e1, e2, List.append_assoc, over_behind P _ X o ho, List.drop_append_of_le_length (by rw [List.length_take]; simp; omega), List.drop_eq_nil_of_le (by rw [List.length_take]; omega), List.nil_append]
  rw [← List.append_assoc X, ← List.append_assoc P, List.take_append_of_le_length (by simp; omega), List.take_of_length_le (by simp; omega)]

theorem grown_new {a b c : World} {r : Option Nat} {g : Nat} (h : a.grownBy b r) (k : b.grownBy c (some g)) (hg : a.heap.size ≤ g) : a.grownBy c r :=
  ⟨k.os.trans h.os, k.tape.trans h.tape, k.output.trans h.output, Nat.le_trans h.size k.size, fun i hi hr => (k.block i (Nat.lt_of_lt_of_le hi h.size) (fun e => by simp at e; omega)).trans (h.block i hi hr)⟩
theorem grown_drew {a b : World} {r : Option Nat} (h : a.grownBy b r) : a.grownBy b.drew r := ⟨h.os, h.tape, h.output, h.size, h.block⟩

theorem grown_undrew {a b : World} {r : Option Nat} (h : a.drew.grownBy b r) : a.grownBy b r := ⟨h.os, h.tape, h.output, h.size, h.block⟩
theorem grown_trans' {a b c : World} {r : Option Nat} (h : a.grownBy b r) (k : b.grownBy c r) : a.grownBy c r :=
  ⟨k.os.trans h.os, k.tape.trans h.tape, k.output.trans h.output, Nat.le_trans h.size k.size, fun i hi hr => (k.block i (Nat.lt_of_lt_of_le hi h.size) hr).trans (h.block i hi hr)⟩

/-- 'append(s, x...)' of a row of the call's own, as one step of a region that draws. -/
theorem step_append_own {P : Program} {ops : Array Oper} {o : Oper} {a : Act} {w : World} {K : Act → World → Prop} {Q : Exit → Act → World → Prop} {E0 : Prop} (hgd : o.guard = none) (s x : Operand) (t : TypeId)
    (ho : o.op = Op.call { callee := Callee.builtin Builtin.append, args := #[s, x], argTypes := #[t, t] })
    (base : Nat) (e : TypeId) (i : TypeInfo) (z : Value) (size bytes : Nat) (ht : P.underlying t = some (.slice e)) (hi : P.info? e = some i) (hz : i.zero = some z)
    (hsize : i.size = size) (hby : i.bytes = bytes) (hzs : z.cells.size = size) (hsz : 0 < size)
    (v : Value) (n : Nat) (xs : List Value) (hs : a.eval s = v) (hown : w.ownsRow base e size v n xs)
    (ad : Addr) (m c : Nat) (news : List Value) (hx : a.eval x = .slice (some ad) m c) (hl : news.length = m * size) (hnews : ∀ j u, news[j]? = some u → w.cell? (ad.add j) = some u) (h1 : ∀ u ∈ news, u.oneCell' = true)
    (h63 : n + m ≤ maxLen) (hbytes : (n + m) * bytes ≤ 140737488355328) (hbase : base ≤ w.heap.size)
    (h : ∀ v' w', w'.ownsRow base e size v' (n + m) (xs ++ news) → w.grownBy w' v.ownBlock → (v'.ownBlock = v.ownBlock ∨ v'.ownBlock = some w.heap.size) → K (a.put o.dst v') w') :
    if Region.wanted o (yielded ops a.tmps) = true then Oper.wp P o a w K Q else E0 := by
  have hw : Region.wanted o (yielded ops a.tmps) = true := by simp [Region.wanted, hgd]
  rw [if_pos hw]
  obtain ⟨v', w', hr, h2, h3, -, h5⟩ := run_append_own_at (P := P) w base t o.type e i z size bytes ht hi hz hsize hby hzs hsz v n xs hown ad m c news hl hnews h1 h63 hbytes hbase
  unfold Oper.wp
  simp only [execOp, ho, resolve, invoke, builtin, Sem.run_bind, Sem.run_pure, Result.andThen_ok, List.map_toArray, List.map_cons, List.map_nil, hs, hx, hr]
  exact h v' w' h2 h3 h5

theorem own_form {w : World} {B : Nat} {E : TypeId} {k : Nat} {v : Value} {n : Nat} {xs : List Value} (h : w.ownsRow B E k v n xs) : ∃ ao c, v = .slice ao n c := by
  rcases h.2 with ⟨e, hn⟩ | ⟨g, cap, cur, hv, _⟩
  · exact ⟨none, 0, by rw [e, hn]⟩
  · exact ⟨_, _, hv⟩

theorem below_drew' {B : Nat} {a w : World} (h : Below B a w) : Below B a w.drew := ⟨h.os, h.tape, h.output, h.size, h.block⟩

theorem own_base {w : World} {B B' : Nat} {E : TypeId} {k : Nat} {v : Value} {n : Nat} {xs : List Value} (h : w.ownsRow B E k v n xs) (hB : B' ≤ B) : w.ownsRow B' E k v n xs := by
  obtain ⟨hl, h1 | ⟨g, cap, cur, e, h2, h3⟩⟩ := h
  · exact ⟨hl, Or.inl h1⟩
  · exact ⟨hl, Or.inr ⟨g, cap, cur, e, Nat.le_trans hB h2, h3⟩⟩

theorem own_at {w : World} {B : Nat} {E : TypeId} {k : Nat} {ao : Option Addr} {n c : Nat} {xs : List Value} (h : w.ownsRow B E k (.slice ao n c) n xs) (hn : 0 < n) : ∃ g, ao = some ⟨g, 0, none⟩ ∧ B ≤ g ∧ g < w.heap.size ∧ ∀ j x, xs[j]? = some x → w.cell? ⟨g, j, none⟩ = some x := by
  rcases ownsRow_open h with ⟨_, h0, -⟩ | ⟨g, cap, cur, e, hB, hr, h3, -, h5, h6⟩
  · omega
  · simp only [Value.slice.injEq, true_and] at e
    refine ⟨g, e.1, hB, hr.lt, fun j x hx => ?_⟩
    rw [← h6, List.getElem?_take] at hx
    split at hx
    · rw [hr.cell]; exact hx
    · simp at hx

end Go.Proofs.YtafciefjlkdecaaGreat

namespace Go.Proofs.YtafciefjlkdecaaGreat
open Go.RowKit

theorem infoU : (Tryz.prog.info? 39).map (fun i => (i.zero, i.size, i.bytes)) = some (some (.agg #[.int .u8 0, .string ByteArray.empty, .string ByteArray.empty, .int .u64 0]), 4, 48) := by kernel_rfl
/-- The cells of some. -/
def cellsU (l : List Upd) : List Value := l.flatMap Upd.cells
theorem cellsU_len : ∀ l : List Upd, (cellsU l).length = l.length * 4
  | [] => rfl
  | u :: l => by
    have := cellsU_len l
    simp only [cellsU, List.flatMap_cons, List.length_append, List.length_cons] at *
    rw [this]
    simp [Upd.cells]; omega
theorem cellsU_append (a b : List Upd) : cellsU (a ++ b) = cellsU a ++ cellsU b := by simp [cellsU]
theorem cellsU_one (u : Upd) : cellsU [u] = Upd.cells u := by simp [cellsU]
theorem cellsU_oneCell (l : List Upd) : ∀ v ∈ cellsU l, v.oneCell' = true := by
  intro v hv
  simp only [cellsU, List.mem_flatMap] at hv
  obtain ⟨u, -, hv⟩ := hv
  simp only [Upd.cells, List.mem_cons, List.not_mem_nil, or_false] at hv
  rcases hv with rfl | rfl | rfl | rfl <;> rfl
theorem cellsU_get : ∀ (l : List Upd) (i : Nat) (hi : i < l.length) (j : Nat) (x : Value), (Upd.cells l[i])[j]? = some x → (cellsU l)[i * 4 + j]? = some x
  | [], i, hi, _, _, _ => by simp at hi
  | u :: l, 0, _, j, x, hx => by
    have hj : j < (Upd.cells u).length := (List.getElem?_eq_some_iff.1 hx).1
    simp only [cellsU, List.flatMap_cons, Nat.zero_mul, Nat.zero_add]
    rw [List.getElem?_append_left hj]; exact hx
  | u :: l, i + 1, hi, j, x, hx => by
    have := cellsU_get l i (by simpa using hi) j x (by simpa using hx)
    have hu : (Upd.cells u).length = 4 := rfl
    simp only [cellsU, List.flatMap_cons] at *
    rw [List.getElem?_append_right (by rw [hu]; omega), hu, show (i + 1) * 4 + j - 4 = i * 4 + j by omega]
    exact this
theorem cellsU_take (l : List Upd) (n : Nat) : (cellsU l).take (n * 4) = cellsU (l.take n) := by
  by_cases h : n ≤ l.length
  · conv => lhs; rw [← List.take_append_drop n l, cellsU_append]
    rw [List.take_append_of_le_length (by rw [cellsU_len, List.length_take]; omega), List.take_of_length_le (by rw [cellsU_len, List.length_take]; omega)]
  · rw [List.take_of_length_le (by rw [cellsU_len]; omega), List.take_of_length_le (by omega)]
theorem cellsU_drop (l : List Upd) (n : Nat) : (cellsU l).drop (n * 4) = cellsU (l.drop n) := by
  by_cases h : n ≤ l.length
  · conv => lhs; rw [← List.take_append_drop n l, cellsU_append]
    rw [List.drop_append, List.drop_of_length_le (by rw [cellsU_len, List.length_take]; omega), cellsU_len, List.length_take]
    simp [Nat.min_eq_left h]
  · rw [List.drop_of_length_le (by rw [cellsU_len]; omega), List.drop_of_length_le (by omega)]; rfl

/-- A slice of updates that is only read. -/
structure SlU (w : World) (v : Value) (l : List Upd) : Prop where
  form : ∃ ao c, v = .slice ao l.length c ∧ SlAt Upd.cells 4 w ao l ∧ l.length ≤ c ∧ (c : Int) ≤ 9223372036854775807 ∧ (ao = none → c = 0)
theorem SlU.nil (w : World) : SlU w (.slice none 0 0) [] := ⟨none, 0, rfl, Or.inl rfl, Nat.le_refl _, by omega, fun _ => rfl⟩
theorem SlU.kept {w w' : World} {v : Value} {l : List Upd} {B : Nat} (h : SlU w v l) (hb : Below B w w') (hB : w.heap.size ≤ B) : SlU w' v l := by
  obtain ⟨ao, c, rfl, h1, h2⟩ := h
  exact ⟨ao, c, rfl, h1.kept hb hB, h2⟩
theorem SlAt.cellsU {w : World} {b off : Nat} {l : List Upd} (h : ∀ (i : Nat) (hi : i < l.length) (j : Nat) (x : Value), (Upd.cells l[i])[j]? = some x → w.cell? ⟨b, off + i * 4 + j, none⟩ = some x) :
    ∀ j x, (cellsU l)[j]? = some x → w.cell? ⟨b, off + j, none⟩ = some x := by
  intro j x hx
  have hj := (List.getElem?_eq_some_iff.1 hx).1
  rw [cellsU_len] at hj
  have hi : j / 4 < l.length := by omega
  have hr : j % 4 < (Upd.cells l[j / 4]).length := Nat.mod_lt _ (by decide)
  have e := cellsU_get l (j / 4) hi (j % 4) _ (List.getElem?_eq_getElem hr)
  rw [show j / 4 * 4 + j % 4 = j by omega] at e
  rw [hx] at e
  have := h (j / 4) hi (j % 4) x (by rw [List.getElem?_eq_getElem hr, ← e])
  rw [show off + j / 4 * 4 + j % 4 = off + j by omega] at this
  exact this
/-- A row of the call's own reads as a slice. -/
theorem SlU.of_own {w : World} {B n : Nat} {v : Value} {l : List Upd} (h : w.ownsRow B 39 4 v n (cellsU l)) : l.length = n ∧ SlU w v l := by
  have hn : l.length = n := by have := h.1; rw [cellsU_len] at this; omega
  refine ⟨hn, ?_⟩
  subst hn
  rcases ownsRow_open h with ⟨rfl, h0, -⟩ | ⟨g, cap, cur, rfl, -, hr, h3, h4, h5, h6⟩
  · obtain rfl := List.eq_nil_of_length_eq_zero h0
    exact SlU.nil w
  · refine ⟨_, cap, rfl, Or.inr ⟨g, 0, rfl, hr.lt, fun i hi j x hx => ?_⟩, h3, by unfold maxLen at h4; omega, fun e => by simp at e⟩
    have hj : j < 4 := (List.getElem?_eq_some_iff.1 hx).1
    have e := cellsU_get l i hi j x hx
    rw [hr.cell, Nat.zero_add, ← e, ← h6, List.getElem?_take, if_pos (by omega)]

set_option maxHeartbeats 1000000 in
theorem cloneU (v : Value) (l : List Upd) (w : World) (h : SlU w v l) (hl : l.length ≤ 1000000) :
    Calls Tryz.prog 94 #[v] w fun e w' => (∃ v', e = .returned v' ∧ w'.ownsRow w.heap.size 39 4 v' l.length (cellsU l)) ∧ Below w.heap.size w w' := by
  obtain ⟨ao, c, rfl, hs, hc1, hc2, hn⟩ := h
  have hnil := fun (w : World) a n c n' c' => Lib.run_eql_slice_nil (P := Tryz.prog) w 101 39 a n c n' c' Tryz.underlying101
  obtain ⟨i0, hi, hz0, hz1, hz2⟩ := info_parts infoU
  cases ao with
  | none =>
    obtain rfl := hn rfl
    obtain rfl : l = [] := List.eq_nil_of_length_eq_zero (by omega)
    go_enter Tryz.func94, Tryz.ntmps94
    go_wp2_with fail
    go_ret
    exact ⟨⟨_, rfl, World.ownsRow_nil _ _ _ _⟩, Below.refl _ _⟩
  | some a =>
    have hown := World.ownsRow_made (e := 39) (size := 4) (base := w.heap.size) w #[] 0 (Nat.le_refl _) (by unfold maxLen; omega) rfl
    have hnews : ∀ j u, (cellsU l)[j]? = some u → (w.alloc (.cells #[] 39)).cell? (a.add j) = some u := by
      intro j u hu
      have hj := (List.getElem?_eq_some_iff.1 hu).1
      rw [cellsU_len] at hj
      obtain ⟨b, off, e, hb, hc⟩ := hs.at (by omega)
      obtain rfl : a = ⟨b, off, none⟩ := by simpa using e
      rw [show (⟨b, off, none⟩ : Addr).add j = ⟨b, off + j, none⟩ by simp [Addr.add]]
      exact cell_past _ (SlAt.cellsU hc j u hu)
    have hcl := cellsU_len l
    clear hs
    go_enter Tryz.func94, Tryz.ntmps94
    go_wp2_with (at_builtin; refine wpList_append_own_at _ rfl _ _ 101 rfl w.heap.size 39 i0 (.agg #[.int .u8 0, .string ByteArray.empty, .string ByteArray.empty, .int .u64 0]) 4 48 Tryz.underlying101 hi hz0 hz1 hz2 rfl (by decide) _ 0 [] rfl hown a l.length c (cellsU l) rfl hcl hnews (cellsU_oneCell l) (by unfold maxLen; omega) (by omega) (by simp) ?_; intro v' w1 hown' hgrow hnil' hat)
    go_ret
    rw [Nat.zero_add, List.nil_append] at hown'
    exact ⟨⟨_, rfl, hown'⟩, below_grown_new hgrow fun k e => Nat.le_of_eq (Option.some.inj e)⟩

end Go.Proofs.YtafciefjlkdecaaGreat

namespace Go.Proofs.YtafciefjlkdecaaGreat
open Go.RowKit

/-- A value of updates: one slice. -/
structure BoxU (w : World) (v : Value) (l : List Upd) : Prop where
  form : ∃ s, v = .agg #[s] ∧ SlU w s l
theorem BoxU.kept {w w' : World} {v : Value} {l : List Upd} {B : Nat} (h : BoxU w v l) (hb : Below B w w') (hB : w.heap.size ≤ B) : BoxU w' v l := by
  obtain ⟨s, rfl, hs⟩ := h
  exact ⟨s, rfl, hs.kept hb hB⟩
theorem BoxU.of_own {w : World} {B n : Nat} {v : Value} {l : List Upd} (h : w.ownsRow B 39 4 v n (cellsU l)) : BoxU w (.agg #[v]) l := ⟨v, rfl, (SlU.of_own h).2⟩

set_option maxHeartbeats 400000 in
theorem lenU (v : Value) (l : List Upd) (w : World) (h : BoxU w v l) :
    Calls Tryz.prog 63 #[v] w fun e w' => e = .returned (.int .i64 l.length) ∧ Below w.heap.size w w' := by
  obtain ⟨s, rfl, ao, c, rfl, hs, hc1, hc2, hn⟩ := h
  go_enter Tryz.func63, Tryz.ntmps63
  go_wp2
  go_ret
  exact ⟨rfl, by go_grown⟩

set_option maxHeartbeats 400000 in
theorem listU (v : Value) (l : List Upd) (w : World) (h : BoxU w v l) (hl : l.length ≤ 1000000) :
    Calls Tryz.prog 75 #[v] w fun e w' => (∃ v', e = .returned v' ∧ w'.ownsRow w.heap.size 39 4 v' l.length (cellsU l)) ∧ Below w.heap.size w w' := by
  obtain ⟨s, rfl, h2⟩ := h
  have hcl := fun w => cloneU s l w
  obtain ⟨ao, c, rfl, hs, hc1, hc2, hn⟩ := h2
  have hS : SlU w (.slice ao l.length c) l := ⟨ao, c, rfl, hs, hc1, hc2, hn⟩
  have H := Lib.hid hcl
  have HS := Lib.hid hS
  clear hcl hS hn
  go_enter Tryz.func75, Tryz.ntmps75
  go_wp2_with (go_at_call 94; refine (thread (H.out _ (HS.out.kept (by go_grown) (Nat.le_refl _)) hl) w.heap.size w (by go_grown) (by go_grown)).mono ?_; rintro e w1 ⟨⟨v', rfl, hown⟩, hB, -, -, hs1, hz1⟩)
  go_ret
  exact ⟨⟨_, rfl, own_base hown (by simp)⟩, hB⟩

set_option maxHeartbeats 400000 in
theorem findU (v : Value) (l : List Upd) (k : List UInt8) (w : World) (h : BoxU w v l) (hl : l.length ≤ 1000000) (hr : Rising Upd.key l) :
    Calls Tryz.prog 90 #[v, .string (S k)] w fun e w' => e = .returned (.tuple #[.int .i64 (below Upd.key l k : Nat), .bool (hasKey Upd.key l k)]) ∧ Below w.heap.size w w' := by
  obtain ⟨s, rfl, ao, c, rfl, hs, hc1, hc2, hn⟩ := h
  go_enter Tryz.func90, Tryz.ntmps90
  go_wp2_with (go_at_call 123; refine (thread (searchU ao c l k _ (hs.kept (by go_grown) (Nat.le_refl _)) hl hr) w.heap.size w (by go_grown) (by go_grown)).mono ?_; rintro e w1 ⟨rfl, hB, -, -, hs1, hz1⟩)
  go_ret2
  exact ⟨rfl, hB⟩

end Go.Proofs.YtafciefjlkdecaaGreat

namespace Go.Proofs.YtafciefjlkdecaaGreat
open Go.RowKit

theorem own_below {w w' : World} {B : Nat} {E : TypeId} {k : Nat} {v : Value} {n : Nat} {xs : List Value} (h : w.ownsRow B E k v n xs) (hb : Below w.heap.size w w') : w'.ownsRow B E k v n xs :=
  h.kept (row := none) ⟨hb.os, hb.tape, hb.output, hb.size, fun i hi _ => hb.block i hi⟩ (by cases hv : v.ownBlock <;> simp)
theorem below_same {B : Nat} {w w' : World} (h : Below w.heap.size w w') (hB : B ≤ w.heap.size) : Below B w w' := h.mono hB
def bmax (a b : Int) : Int := if b > a then b else a
theorem run_bmax {P : Program} (ts : Array TypeId) (t : TypeId) (a b : Int) (w : World) : (Builtin.max_ ts t #[.int .i64 a, .int .i64 b]).run P w = .ok (.int .i64 (bmax a b)) w := by rw [run_max_int2]; rfl
theorem bmax_nat (a b : Nat) : bmax (a : Int) (b : Int) = ((max a b : Nat) : Int) := by unfold bmax; split <;> omega
theorem cell_drew {w : World} {a : Addr} {v : Value} (h : w.cell? a = some v) : w.drew.cell? a = some v := h
theorem frozen_drew {w : World} {a : Addr} {x : Bool} (h : w.frozen? a = x) : w.drew.frozen? a = x := h
theorem far_block {w : World} {b b' o o' : Nat} {v u : Value} (h : b ≠ b') (hc : w.cell? ⟨b, o, none⟩ = some v) : (w.setCell ⟨b', o', none⟩ u).cell? ⟨b, o, none⟩ = some v :=
  (World.cell?_of_block (Below.heap_setCell _ _ _ _ h)).trans hc
theorem SlAt.cells4 {w : World} {ao : Option Addr} {l : List Upd} (hs : SlAt Upd.cells 4 w ao l) (i : Nat) (hi : i < l.length) :
    ∃ b off, ao = some ⟨b, off, none⟩ ∧ b < w.heap.size ∧ w.cell? ⟨b, off + i * 4, none⟩ = some (.int .u8 l[i].kind) ∧ w.cell? ⟨b, off + i * 4 + 1, none⟩ = some (.string (S l[i].key)) ∧ w.cell? ⟨b, off + i * 4 + 2, none⟩ = some (.string (S l[i].val)) ∧ w.cell? ⟨b, off + i * 4 + 3, none⟩ = some (.int .u64 l[i].delta) := by
  obtain ⟨b, off, rfl, hb, hc⟩ := hs.at (by omega)
  obtain ⟨h0, h1, h2, h3⟩ := updCells hc i hi
  exact ⟨b, off, rfl, hb, h0, h1, h2, h3⟩
theorem cell_below {B : Nat} {w w' : World} (h : Below B w w') {b : Nat} (hb : b < B) (o : Nat) : w'.cell? ⟨b, o, none⟩ = w.cell? ⟨b, o, none⟩ := World.cell?_of_block (h.block b hb)
theorem kept_cell {w w' : World} {b o : Nat} {v : Value} (hb : Below w.heap.size w w') (h : w.cell? ⟨b, o, none⟩ = some v) : w'.cell? ⟨b, o, none⟩ = some v :=
  ((bcell hb).1 b o (World.block_lt_of_cell? w _ h)).trans h
theorem snoc_ind {α : Type} {Q : List α → Prop} (h0 : Q []) (h1 : ∀ us u, Q us → Q (us ++ [u])) (l : List α) : Q l := by
  have h : ∀ r : List α, Q r.reverse := by
    intro r
    induction r with
    | nil => exact h0
    | cons a r ih => rw [List.reverse_cons]; exact h1 _ _ ih
  have := h l.reverse
  rwa [List.reverse_reverse] at this
/-- The list from another place on, round. -/
def rotL (F : List Upd) (t k : Nat) : List Upd := (List.range k).map fun i => F[(i + t) % F.length]?.getD ⟨0, [], [], 0⟩
theorem rotL_snoc (F : List Upd) (t k : Nat) (h : (k + t) % F.length < F.length) : rotL F t (k + 1) = rotL F t k ++ [F[(k + t) % F.length]] := by
  unfold rotL
  rw [List.range_succ, List.map_append]
  simp [h]
theorem rotL_all (F : List Upd) (t : Nat) : rotL F t F.length = F.drop (t % F.length) ++ F.take (t % F.length) := by
  by_cases h0 : F.length = 0
  · have : F = [] := List.eq_nil_of_length_eq_zero h0
    subst this
    simp [rotL]
  have ht : t % F.length < F.length := Nat.mod_lt _ (by omega)
  apply List.ext_getElem
  · simp only [rotL, List.length_map, List.length_range, List.length_append, List.length_drop, List.length_take]
    omega
  · intro i h1 h2
    have hi : i < F.length := by simpa [rotL] using h1
    have e : (i + t) % F.length = if i < F.length - t % F.length then i + t % F.length else i + t % F.length - F.length := by
      rw [Nat.add_mod, Nat.mod_eq_of_lt hi]
      split
      · exact Nat.mod_eq_of_lt (by omega)
      · rw [Nat.mod_eq_sub_mod (by omega), Nat.mod_eq_of_lt (by omega)]
    simp only [rotL, List.getElem_map, List.getElem_range]
    rw [List.getElem_append]
    simp only [List.length_drop]
    split
    · rename_i hlt
      rw [e, if_pos hlt, List.getElem_drop, List.getElem?_eq_getElem (by omega)]
      simp only [Option.getD_some]
      congr 1
      omega
    · rename_i hlt
      rw [e, if_neg hlt, List.getElem_take, List.getElem?_eq_getElem (by omega)]
      simp only [Option.getD_some]
      congr 1
      omega
theorem rotL_perm (F : List Upd) (t : Nat) : (rotL F t F.length).Perm F := by
  rw [rotL_all]
  have := List.perm_append_comm (l₁ := F.drop (t % F.length)) (l₂ := F.take (t % F.length))
  rw [List.take_append_drop] at this
  exact this
theorem rotL_mem {F : List Upd} {t k : Nat} (h0 : 0 < F.length) {x : Upd} (hx : x ∈ rotL F t k) : x ∈ F := by
  unfold rotL at hx
  obtain ⟨i, -, rfl⟩ := List.mem_map.1 hx
  have : (i + t) % F.length < F.length := Nat.mod_lt _ h0
  rw [List.getElem?_eq_getElem this, Option.getD_some]
  exact List.getElem_mem _
theorem SlU.cells4 {w : World} {a : Option Addr} {n c : Nat} {A : List Upd} (h : SlU w (.slice a n c) A) (i : Nat) (hi : i < A.length) :
    ∃ b off, a = some ⟨b, off, none⟩ ∧ b < w.heap.size ∧ w.cell? ⟨b, off + i * 4, none⟩ = some (.int .u8 A[i].kind) ∧ w.cell? ⟨b, off + i * 4 + 1, none⟩ = some (.string (S A[i].key)) ∧ w.cell? ⟨b, off + i * 4 + 2, none⟩ = some (.string (S A[i].val)) ∧ w.cell? ⟨b, off + i * 4 + 3, none⟩ = some (.int .u64 A[i].delta) := by
  obtain ⟨ao, c', e, hs, -⟩ := h
  simp only [Value.slice.injEq] at e
  obtain ⟨rfl, rfl, rfl⟩ := e
  exact SlAt.cells4 hs i hi
theorem below_drewN {B : Nat} {a w : World} (h : Below B a w) (m : Nat) : Below B a (w.drewN m) := ⟨h.os, h.tape, h.output, h.size, h.block⟩
theorem cell_four_new (w : World) (x y z u : Value) (t : TypeId) : ∀ j v, [x, y, z, u][j]? = some v → (w.alloc (.cells #[x, y, z, u] t)).cell? ((⟨w.heap.size, 0, none⟩ : Addr).add j) = some v := by
  intro j v hj
  match j, hj with
  | 0, hj => simp at hj; subst hj; simp [Addr.add]
  | 1, hj => simp at hj; subst hj; simp [Addr.add]
  | 2, hj => simp at hj; subst hj; simp [Addr.add]
  | 3, hj => simp at hj; subst hj; simp [Addr.add]
theorem four_oneCell (k : Int) (x y : ByteArray) (d : Int) : ∀ u ∈ [Value.int .u8 k, .string x, .string y, .int .u64 d], u.oneCell' = true := by
  intro u hu
  simp only [List.mem_cons, List.not_mem_nil, or_false] at hu
  rcases hu with rfl | rfl | rfl | rfl <;> rfl
theorem cellsU_snoc (l : List Upd) (u : Upd) : cellsU (l ++ [u]) = cellsU l ++ [.int .u8 u.kind, .string (S u.key), .string (S u.val), .int .u64 u.delta] := by
  simp [cellsU, Upd.cells]
def tmin (a b : Int) : Int := if b < a then b else a
theorem run_tmin {P : Program} (ts : Array TypeId) (t : TypeId) (a b : Int) (w : World) : (Builtin.min_ ts t #[.int .i64 a, .int .i64 b]).run P w = .ok (.int .i64 (tmin a b)) w := by rw [run_min_int2]; rfl
theorem tmin_nat (a b : Nat) : tmin (a : Int) (b : Int) = ((min a b : Nat) : Int) := by unfold tmin; split <;> omega
theorem take_str (l : List UInt8) (n : Nat) (h : n ≤ l.length) (w : World) : (Instr.slice 9 (.string (S l)) none (some (.int .i64 (n : Int))) none).run Tryz.prog w = .ok (.string (S (l.take n))) w := by
  rw [run_slice_string_to_if (P := Tryz.prog) w 9 (S l) .i64 (n : Int) Tryz.underlying9]
  rw [if_pos (by rw [S_size]; omega)]
  simp [S_extract]

end Go.Proofs.YtafciefjlkdecaaGreat
