/-
  PlanFits, plain: the keys, messages, entries and children that the statement makes, and how many bytes they have.
-/
import Derived.Test.YtlmlmkeomlehmaaNsp
import Derived.Test.YtlmlmkeomlehmaaZqb
namespace Go.Proofs.Ytlmlmkeomlehmaa
open Go.RowKit

/-- The key of a number. -/
def keyF (f : UInt8) (i : Nat) : List UInt8 := UInt8.ofNat (i + 1) :: List.replicate 15 f
theorem keyF_len (f : UInt8) (i : Nat) : (keyF f i).length = 16 := by simp [keyF]
theorem keyF_lt (f : UInt8) {i j : Nat} (h : i < j) (hj : j < 200) : bl (keyF f i) (keyF f j) = true := by
  unfold keyF
  rw [bl_cons]
  refine Or.inl ?_
  rw [UInt8.lt_iff_toNat_lt]
  simp only [UInt8.toNat_ofNat']
  omega

theorem below_all {α : Type} {key : α → List UInt8} {l : List α} {k : List UInt8} (h : ∀ a ∈ l, bl (key a) k = true) : below key l k = l.length := by
  unfold below
  exact List.countP_eq_length.2 h
theorem hasKey_not {α : Type} {key : α → List UInt8} {l : List α} {k : List UInt8} (h : ∀ a ∈ l, bl (key a) k = true) : hasKey key l k = false := by
  cases e : hasKey key l k with
  | false => rfl
  | true =>
    obtain ⟨a, ha, rfl⟩ := hasKey_iff.1 e
    have := h a ha
    rw [bl_irrefl] at this
    exact absurd this (by simp)

/-- The first messages. -/
def usF (f : UInt8) (v : List UInt8) (n : Nat) : List Upd := (List.range n).map fun i => ⟨1, keyF f i, v, 0⟩
theorem usF_len (f : UInt8) (v : List UInt8) (n : Nat) : (usF f v n).length = n := by simp [usF]
theorem usF_succ (f : UInt8) (v : List UInt8) (n : Nat) : usF f v (n + 1) = usF f v n ++ [⟨1, keyF f n, v, 0⟩] := by simp [usF, List.range_succ]
theorem usF_mem {f : UInt8} {v : List UInt8} {n : Nat} {u : Upd} (h : u ∈ usF f v n) : ∃ i, i < n ∧ u = ⟨1, keyF f i, v, 0⟩ := by
  unfold usF at h
  obtain ⟨i, hi, rfl⟩ := List.mem_map.1 h
  exact ⟨i, by simpa using hi, rfl⟩
theorem usF_lt {f : UInt8} {v : List UInt8} {n : Nat} (hn : n < 200) : ∀ u ∈ usF f v n, bl u.key (keyF f n) = true := fun u hu => by
  obtain ⟨i, hi, rfl⟩ := usF_mem hu
  exact keyF_lt f hi hn
theorem usF_rising (f : UInt8) (v : List UInt8) : ∀ n : Nat, n ≤ 200 → Rising Upd.key (usF f v n)
  | 0, _ => by simp [usF, Rising]
  | n + 1, h => by
    rw [usF_succ]
    unfold Rising
    rw [List.pairwise_append]
    refine ⟨usF_rising f v n (by omega), by simp, fun a ha b hb => ?_⟩
    rw [List.mem_singleton] at hb
    subst hb
    exact usF_lt (by omega) a ha
theorem putF_okay (f : UInt8) (i : Nat) {v : List UInt8} (hv : v.length ≤ 32) : Okay ⟨1, keyF f i, v, 0⟩ := by
  refine ⟨⟨by show (1 : Nat) < 256; omega, by show (0 : Nat) < _; omega⟩, ?_⟩
  unfold Upd.check
  rw [if_neg (by simp only [keyF_len]; omega), if_neg (by simp)]
theorem usF_okay {f : UInt8} {v : List UInt8} (hv : v.length ≤ 32) {n : Nat} : ∀ u ∈ usF f v n, Okay u := fun u hu => by
  obtain ⟨i, _, rfl⟩ := usF_mem hu
  exact putF_okay f i hv
theorem usF_fine {f : UInt8} {v : List UInt8} (hv : v.length ≤ 32) {n : Nat} : Fine (usF f v n) := fun u hu => ⟨(usF_okay hv u hu).wf, by have := (usF_okay hv u hu).vlen; omega⟩
theorem usF_with {f : UInt8} {v : List UInt8} {n : Nat} (hn : n < 200) : withL (usF f v n) ⟨1, keyF f n, v, 0⟩ = usF f v (n + 1) := by
  have h1 := below_all (key := Upd.key) (usF_lt (v := v) (f := f) hn)
  have h2 := hasKey_not (key := Upd.key) (usF_lt (v := v) (f := f) hn)
  unfold withL
  rw [dif_neg (by rw [h2]; simp)]
  show insU _ (below Upd.key (usF f v n) (keyF f n)) _ = _
  rw [h1, usF_succ]
  unfold insU
  rw [List.take_length, List.drop_length]
theorem usF_text {f : UInt8} {v : List UInt8} (hv : v.length ≤ 32) : ∀ n : Nat, (textU (usF f v n)).length ≤ 51 * n
  | 0 => by simp [usF, textU]
  | n + 1 => by
    have ih := usF_text (f := f) hv n
    rw [usF_succ, textU_app, List.length_append]
    have : (textU [(⟨1, keyF f n, v, 0⟩ : Upd)]).length = 2 + 16 + (1 + v.length) := by
      simp [textU, Upd.bytes, keyF_len]
      omega
    omega

/-- The first entries. -/
def esF (f : UInt8) (v : List UInt8) (n : Nat) : List Ent := (List.range n).map fun i => ⟨keyF f i, v⟩
theorem esF_len (f : UInt8) (v : List UInt8) (n : Nat) : (esF f v n).length = n := by simp [esF]
theorem esF_succ (f : UInt8) (v : List UInt8) (n : Nat) : esF f v (n + 1) = esF f v n ++ [⟨keyF f n, v⟩] := by simp [esF, List.range_succ]
theorem esF_mem {f : UInt8} {v : List UInt8} {n : Nat} {u : Ent} (h : u ∈ esF f v n) : ∃ i, i < n ∧ u = ⟨keyF f i, v⟩ := by
  unfold esF at h
  obtain ⟨i, hi, rfl⟩ := List.mem_map.1 h
  exact ⟨i, by simpa using hi, rfl⟩
theorem esF_lt {f : UInt8} {v : List UInt8} {n : Nat} (hn : n < 200) : ∀ u ∈ esF f v n, bl u.key (keyF f n) = true := fun u hu => by
  obtain ⟨i, hi, rfl⟩ := esF_mem hu
  exact keyF_lt f hi hn
theorem esF_rising (f : UInt8) (v : List UInt8) : ∀ n : Nat, n ≤ 200 → Rising Ent.key (esF f v n)
  | 0, _ => by simp [esF, Rising]
  | n + 1, h => by
    rw [esF_succ]
    unfold Rising
    rw [List.pairwise_append]
    refine ⟨esF_rising f v n (by omega), by simp, fun a ha b hb => ?_⟩
    rw [List.mem_singleton] at hb
    subst hb
    exact esF_lt (by omega) a ha
theorem esF_fine {f : UInt8} {v : List UInt8} (hv : v.length ≤ 32) {n : Nat} : FineE (esF f v n) := fun u hu => by
  obtain ⟨i, _, rfl⟩ := esF_mem hu
  exact ⟨by simp [keyF_len], by simp [keyF_len], hv⟩
theorem esF_on {f : UInt8} {v : List UInt8} (hv : v.length ≤ 32) {n : Nat} (hn : n < 200) : onAll (esF f v n) [⟨1, keyF f n, v, 0⟩] = esF f v (n + 1) := by
  have h1 := below_all (key := Ent.key) (esF_lt (v := v) (f := f) hn)
  have h2 := hasKey_not (key := Ent.key) (esF_lt (v := v) (f := f) hn)
  have h3 := (putF_okay f n hv).check
  show onE (esF f v n) ⟨1, keyF f n, v, 0⟩ = _
  have h4 : newE (esF f v n) ⟨1, keyF f n, v, 0⟩ = (v, true) := by
    unfold newE
    rw [if_neg (by rw [h2]; simp)]
    rfl
  unfold onE
  rw [if_neg (by rw [h3]; simp), h4]
  simp only [h2, if_true, Bool.false_eq_true, if_false]
  rw [h1, esF_succ]
  unfold insE
  rw [List.take_length, List.drop_length]
theorem esF_text {f : UInt8} {v : List UInt8} (hv : v.length ≤ 32) (n : Nat) : (entText (esF f v n)).length ≤ 50 * n := by
  have := entText_len (esF f v n) (esF_fine hv)
  rwa [esF_len] at this

/-- The first children. -/
def chF (f : UInt8) (i : Nat) : Chd := ⟨if i = 0 then [] else keyF f i, i, 0, 0⟩
def csF (f : UInt8) (n : Nat) : List Chd := (List.range n).map (chF f)
theorem csF_len (f : UInt8) (n : Nat) : (csF f n).length = n := by simp [csF]
theorem csF_succ (f : UInt8) (n : Nat) : csF f (n + 1) = csF f n ++ [chF f n] := by simp [csF, List.range_succ]
theorem csF_mem {f : UInt8} {n : Nat} {c : Chd} (h : c ∈ csF f n) : ∃ i, i < n ∧ c = chF f i := by
  unfold csF at h
  obtain ⟨i, hi, rfl⟩ := List.mem_map.1 h
  exact ⟨i, by simpa using hi, rfl⟩
theorem chF_low (f : UInt8) (i : Nat) : (chF f i).low.length ≤ 16 := by
  unfold chF
  simp only
  split <;> simp [keyF_len]
theorem chF_ok (f : UInt8) {i : Nat} (h : i < 200) : ChdOk (chF f i) := ⟨chF_low f i, by show (0 : Int) ≤ (i : Int) ∧ (i : Int) ≤ 2147483647; omega, by show (0 : Nat) < _; omega, by show (0 : Nat) < _; omega⟩
theorem csF_rising (f : UInt8) : ∀ n : Nat, n ≤ 200 → Rising Chd.low (csF f n)
  | 0, _ => by simp [csF, Rising]
  | n + 1, h => by
    rw [csF_succ]
    unfold Rising
    rw [List.pairwise_append]
    refine ⟨csF_rising f n (by omega), by simp, fun a ha b hb => ?_⟩
    rw [List.mem_singleton] at hb
    subst hb
    obtain ⟨i, hi, rfl⟩ := csF_mem ha
    show bl (if i = 0 then [] else keyF f i) (if n = 0 then [] else keyF f n) = true
    rw [if_neg (show n ≠ 0 by omega)]
    split
    · rfl
    · exact keyF_lt f hi (by omega)
theorem csF_right (f : UInt8) {n : Nat} (h1 : 1 ≤ n) (h2 : n ≤ 16) : RightC (csF f n) := by
  refine ⟨by rw [csF_len]; omega, fun c hc => ?_, fun c hc => ?_, csF_rising f n (by omega)⟩
  · obtain ⟨i, hi, rfl⟩ := csF_mem hc
    exact chF_ok f (by omega)
  · unfold csF at hc
    rw [List.getElem?_map, List.getElem?_range (by omega)] at hc
    simp only [Option.map_some, Option.some.injEq] at hc
    subst hc
    rfl
theorem csF_text (f : UInt8) : ∀ n : Nat, (kidsT (csF f n)).length ≤ 33 * n
  | 0 => by simp [csF, kidsT]
  | n + 1 => by
    have ih := csF_text f n
    have hl := chF_low f n
    rw [csF_succ, kidsT_app, List.length_append]
    have : (kidsT [chF f n]).length = 1 + (chF f n).low.length + 16 := by
      simp [kidsT, chT, joinT_len, ptrL_len]
      omega
    omega
theorem textF_len {f : UInt8} {v : List UInt8} (hv : v.length ≤ 32) (m n : Nat) : (textN (csF f m) (usF f v n)).length ≤ 1 + 33 * m + 51 * n := by
  have h1 := csF_text f m
  have h2 := usF_text (f := f) hv n
  unfold textN
  rw [List.length_cons, List.length_append]
  omega

end Go.Proofs.Ytlmlmkeomlehmaa
