/-
  Texts as lists of bytes: 'S l' is the text whose bytes are l. What the walk's operations on texts come to, said of the lists.
-/
import Derived.Test.YtcjeonamebnpfaaKit
import Derived.Laws.BytesArg
import Derived.Laws.Concat
import Derived.Laws.Strings2
import Derived.Laws.Strings3
import Derived.Deep.OwnRows
namespace Go.Proofs.Ytcjeonamebnpfaa
open Go.RowKit

/-- The text whose bytes are l. -/
def S (l : List UInt8) : ByteArray := ⟨l.toArray⟩

theorem S_of (s : ByteArray) : s = S s.data.toList := by cases s; simp [S]
theorem S_ex (s : ByteArray) : ∃ l, s = S l := ⟨_, S_of s⟩
theorem S_inj {a b : List UInt8} (h : S a = S b) : a = b := by
  have := congrArg (fun s : ByteArray => s.data.toList) h
  simpa [S] using this
@[go_sem] theorem S_size (l : List UInt8) : (S l).size = l.length := by simp [S, ByteArray.size]
@[go_sem] theorem S_toList (l : List UInt8) : (S l).toList = l := by simp [S]
theorem S_data (l : List UInt8) : (S l).data.toList = l := by simp [S]
@[go_sem] theorem S_append (a b : List UInt8) : S a ++ S b = S (a ++ b) := by simp only [S]; exact ByteArray.mk_append_mk a b
@[go_sem] theorem S_extract (l : List UInt8) (a b : Nat) : (S l).extract a b = S ((l.drop a).take (b - a)) := by simp only [S]; exact ByteArray.extract_mk l a b
@[go_sem] theorem S_get (l : List UInt8) (i : Nat) (h : i < (S l).size) : (S l)[i] = l[i]'(by rwa [S_size] at h) := by
  simp only [S]; rfl
theorem S_nil : S [] = ByteArray.empty := rfl
theorem S_lit (l : List UInt8) : (⟨l.toArray⟩ : ByteArray) = S l := rfl
theorem strOfNums_S (ns : List Int) : strOfNums ns = S (ns.map fun n => UInt8.ofNat n.toNat) := rfl

theorem cell_new (w : World) (c : Array Value) (e : TypeId) (fz : Nat × Nat) (i : Nat) : (w.alloc (.cells c e fz)).cell? ⟨w.heap.size, i, none⟩ = c[i]? :=
  cell_of_row _ w.heap.size i c e fz (heap_alloc_new w _)

/-- What 'string(b)' comes to, b of one byte at the head of block n: by what the cell there holds. -/
def conv1 (P : Program) (src dst : TypeId) (W : World) (n c : Nat) : Option Value → Result Value
  | some (.int .u8 x) => .ok (.string (S [UInt8.ofNat x.toNat])) W
  | _ => (convert src dst (.slice (some ⟨n, 0, none⟩) 1 c)).run P W
@[go_sem] theorem conv1_some (P : Program) (src dst : TypeId) (W : World) (n c : Nat) (x : Int) : conv1 P src dst W n c (some (.int .u8 x)) = .ok (.string (S [UInt8.ofNat x.toNat])) W := rfl
theorem run_str1 {P : Program} (src dst e : TypeId) (hs : P.underlying src = some (.slice e)) (he : P.underlying e = some (.int .u8)) (hd : P.underlying dst = some .string) (W : World) (n c : Nat) :
    (convert src dst (.slice (some ⟨n, 0, none⟩) 1 c)).run P W = conv1 P src dst W n c (W.cell? ⟨n, 0, none⟩) := by
  cases h : W.cell? ⟨n, 0, none⟩ with
  | none => rfl
  | some v =>
    cases v with
    | int k x =>
      cases k <;> first
        | rfl
        | (refine run_convert_bytes_arg W src e hs he n 0 1 c [x] rfl (fun i hi => ?_) dst hd
           obtain rfl : i = 0 := by omega
           exact h)
    | _ => rfl
/-- The same, of two bytes. -/
def conv2 (P : Program) (src dst : TypeId) (W : World) (n c : Nat) : Option Value → Option Value → Result Value
  | some (.int .u8 x), some (.int .u8 y) => .ok (.string (S [UInt8.ofNat x.toNat, UInt8.ofNat y.toNat])) W
  | _, _ => (convert src dst (.slice (some ⟨n, 0, none⟩) 2 c)).run P W
@[go_sem] theorem conv2_some (P : Program) (src dst : TypeId) (W : World) (n c : Nat) (x y : Int) : conv2 P src dst W n c (some (.int .u8 x)) (some (.int .u8 y)) = .ok (.string (S [UInt8.ofNat x.toNat, UInt8.ofNat y.toNat])) W := rfl
theorem run_str2 {P : Program} (src dst e : TypeId) (hs : P.underlying src = some (.slice e)) (he : P.underlying e = some (.int .u8)) (hd : P.underlying dst = some .string) (W : World) (n c : Nat) :
    (convert src dst (.slice (some ⟨n, 0, none⟩) 2 c)).run P W = conv2 P src dst W n c (W.cell? ⟨n, 0, none⟩) (W.cell? ⟨n, 1, none⟩) := by
  unfold conv2
  split
  · rename_i x y h0 h1
    refine run_convert_bytes_arg W src e hs he n 0 2 c [x, y] rfl (fun i hi => ?_) dst hd
    match i, hi with
    | 0, _ => exact h0
    | 1, _ => exact h1
  · rfl
/-- 'string(make([]byte, n))'. -/
theorem run_str_made {P : Program} (src dst e : TypeId) (hs : P.underlying src = some (.slice e)) (he : P.underlying e = some (.int .u8)) (hd : P.underlying dst = some .string) (w : World) (n c m : Nat) (hm : m = w.heap.size) :
    (convert src dst (.slice (some ⟨m, 0, none⟩) n c)).run P (w.alloc (.cells (madeCells #[.int .u8 0] n) e)) = .ok (.string (S (List.replicate n 0))) (w.alloc (.cells (madeCells #[.int .u8 0] n) e)) := by
  subst hm
  have h := run_convert_bytes_arg (P := P) (w.alloc (.cells (madeCells #[.int .u8 0] n) e)) src e hs he w.heap.size 0 n c (List.replicate n 0) (by simp) (fun i hi => ?_) dst hd
  · rw [h, strOfNums_S]; simp
  · rw [Nat.zero_add, cell_new]; simp [madeCells, hi, List.getD, Nat.mod_one]

theorem ofNat_mod (n : Nat) : UInt8.ofNat (n % 256) = UInt8.ofNat n := by apply UInt8.toNat_inj.1; simp
/-- The k least significant bytes of n, the least first. -/
def le (n k : Nat) : List UInt8 := (List.range k).map fun i => UInt8.ofNat (n / 256 ^ i % 256)
theorem le_zero (n : Nat) : le n 0 = [] := rfl
theorem le_succ (n k : Nat) : le n (k + 1) = le n k ++ [UInt8.ofNat (n / 256 ^ k % 256)] := by simp [le, List.range_succ]
@[simp, go_sem] theorem le_length (n k : Nat) : (le n k).length = k := by simp [le]
theorem div_pow_succ (n k : Nat) : n / 256 ^ (k + 1) = n / 256 ^ k / 256 := by rw [Nat.pow_succ, Nat.div_div_eq_div_mul]

end Go.Proofs.Ytcjeonamebnpfaa
