/-
  The walks of slices.Grow of nil, and slices.Concat of two, at updates.
  The walk of (buf.Buffer).Cut.
  The walk of (buf.Buffer).Cut, with an upper end.
  The walks of layer 1 (lend): widths, numbers as bytes.
  The walk of lend.Read: numbers of bytes.
  The walks of layer 14 (msg): numbers as values, what an update makes of a value; the plain words for it.
-/
import Derived.Test.YtafciefjlkdecaaGreatZa
import Derived.Laws.AppendOwnNone
import Derived.Lib.Walk
import Derived.Deep.RegionHeld3
import Derived.Deep.DrawnRows
import Derived.Laws.BitsAllLaws
import Derived.Laws.BitsLemmas
namespace Go.Proofs.YtafciefjlkdecaaGreat
open Go.RowKit

/-- 'append(s, x...)' of a row of the call's own, the source nil or not. -/
theorem wpList_append_src {P : Program} (w : World) {ops : Array Oper} {rest : List Oper} {o : Oper} {a : Act} {Q : Exit → Act → World → Prop} (hgd : o.guard = none) (s x : Operand) (t : TypeId)
    (ho : o.op = .call { callee := .builtin .append, args := #[s, x], argTypes := #[t, t] })
    (base : Nat) (e : TypeId) (i : TypeInfo) (z : Value) (size bytes : Nat) (ht : P.underlying t = some (.slice e)) (hi : P.info? e = some i) (hz : i.zero = some z)
    (hsize : i.size = size) (hby : i.bytes = bytes) (hzs : z.cells.size = size) (hsz : 0 < size)
    (v : Value) (n : Nat) (xs : List Value) (hs : a.eval s = v) (hown : w.ownsRow base e size v n xs)
    (ao : Option Addr) (m c : Nat) (news : List Value) (hx : a.eval x = .slice ao m c) (hl : news.length = m * size) (hnone : ao = none → m = 0 ∧ c = 0) (hnews : ∀ ad, ao = some ad → ∀ j u, news[j]? = some u → w.cell? (ad.add j) = some u) (h1 : ∀ u ∈ news, u.oneCell' = true)
    (h63 : n + m ≤ maxLen) (hbytes : (n + m) * bytes ≤ 140737488355328) (hbase : base ≤ w.heap.size)
    (h : ∀ v' w', w'.ownsRow base e size v' (n + m) (xs ++ news) → w.grownBy w' v.ownBlock → (v'.ownBlock = v.ownBlock ∨ v'.ownBlock = some w.heap.size) → wpList P ops Q rest (a.put o.dst v') w') :
    wpList P ops Q (o :: rest) a w := by
  cases ao with
  | none =>
    obtain ⟨rfl, rfl⟩ := hnone rfl
    obtain rfl : news = [] := List.eq_nil_of_length_eq_zero (by omega)
    refine wpList_append_own_none hgd s x t ho base e i size ht hi v n xs hs hown hx (h v w ?_ ⟨rfl, rfl, rfl, Nat.le_refl _, fun _ _ _ => rfl⟩ (Or.inl rfl))
    simpa using hown
  | some ad => exact wpList_append_own_at w hgd s x t ho base e i z size bytes ht hi hz hsize hby hzs hsz v n xs hs hown ad m c news hx hl (hnews ad rfl) h1 h63 hbytes hbase (fun v' w' a b _ d => h v' w' a b d)

set_option maxRecDepth 100000 in
set_option maxHeartbeats 1000000 in
theorem grow_nil (n : Nat) (hn : n ≤ 200000) (w : World) :
    Calls Tryz.prog 134 #[.slice none 0 0, .int .i64 n] w fun e w' => (∃ v', e = .returned v' ∧ w'.ownsRow w.heap.size 39 4 v' 0 []) ∧ Below w.heap.size w w' := by
  obtain ⟨i0, hi, hz0, hz1, hz2⟩ := info_parts infoU
  by_cases h0 : n = 0
  · subst h0
    go_enter Tryz.func134, Tryz.ntmps134
    go_wp2_with fail
    go_ret
    exact ⟨⟨_, rfl, World.ownsRow_nil _ _ _ _⟩, Below.refl _ _⟩
  · have hn0 : (0 : Int) < (n : Int) := by omega
    have hr := fun ty => Lib.run_append_nil_zeros (P := Tryz.prog) w 101 3 ty 39 i0 _ .i64 .i64 Tryz.underlying101 Tryz.underlying3 hi hz0 n (by omega) (by omega) (by omega) (by rw [hz2]; omega)
    have hG := grownCap_ge w n 0 39
    have hGm := grownCap_le_maxLen w n 0 39 (by unfold maxLen; omega)
    generalize grownCap w n 0 39 = G at *
    have hzl : (Builtin.zeroCells (Value.agg #[.int .u8 0, .string ByteArray.empty, .string ByteArray.empty, .int .u64 0]).cells n ++ Builtin.zeroCells (Value.agg #[.int .u8 0, .string ByteArray.empty, .string ByteArray.empty, .int .u64 0]).cells (G - n)).size = G * 4 := by
      rw [Array.size_append, zeroCells_len, zeroCells_len]
      show n * 4 + (G - n) * 4 = _
      omega
    generalize hZ : Builtin.zeroCells (Value.agg #[.int .u8 0, .string ByteArray.empty, .string ByteArray.empty, .int .u64 0]).cells n ++ Builtin.zeroCells (Value.agg #[.int .u8 0, .string ByteArray.empty, .string ByteArray.empty, .int .u64 0]).cells (G - n) = Z at *
    have hown := World.ownsRow_made (e := 39) (size := 4) (base := w.heap.size) w.drew Z G (Nat.le_refl _) hGm hzl
    have hown' := Lib.hid hown
    unfold maxLen at hGm
    clear hZ hzl hown
    go_enter Tryz.func134, Tryz.ntmps134
    go_wp2_with (at_builtin; refine Lib.wpList_append_run _ rfl _ _ _ _ rfl _ _ rfl rfl _ _ (hr _) ?_)
    go_ret
    exact ⟨⟨_, rfl, hown'.out⟩, (below_drew' (Below.refl _ _)).alloc (Nat.le_refl _) _⟩

theorem src_cells {w : World} {ao : Option Addr} {l : List Upd} (hs : SlAt Upd.cells 4 w ao l) : ∀ ad, ao = some ad → ∀ j u, (cellsU l)[j]? = some u → w.cell? (ad.add j) = some u := by
  intro ad e j u hu
  have hj := (List.getElem?_eq_some_iff.1 hu).1
  rw [cellsU_len] at hj
  obtain ⟨b, off, e', hb, hc⟩ := hs.at (by omega)
  obtain rfl : ad = ⟨b, off, none⟩ := by rw [e] at e'; simpa using e'
  rw [show (⟨b, off, none⟩ : Addr).add j = ⟨b, off + j, none⟩ by simp [Addr.add]]
  exact SlAt.cellsU hc j u hu

set_option maxRecDepth 100000 in
set_option maxHeartbeats 2000000 in
theorem concat_two (cb : Nat) (a1 a2 : Option Addr) (c1 c2 : Nat) (l1 l2 : List Upd) (w : World) (hcb : cb < w.heap.size) (h1 : w.cell? ⟨cb, 0, none⟩ = some (.slice a1 l1.length c1)) (h2 : w.cell? ⟨cb, 1, none⟩ = some (.slice a2 l2.length c2))
    (s1 : SlAt Upd.cells 4 w a1 l1) (s2 : SlAt Upd.cells 4 w a2 l2) (n1 : a1 = none → l1.length = 0 ∧ c1 = 0) (n2 : a2 = none → l2.length = 0 ∧ c2 = 0) (hl1 : l1.length ≤ 100000) (hl2 : l2.length ≤ 100000) :
    Calls Tryz.prog 103 #[.slice (some ⟨cb, 0, none⟩) 2 2] w fun e w' => (∃ v', e = .returned v' ∧ w'.ownsRow w.heap.size 39 4 v' (l1 ++ l2).length (cellsU (l1 ++ l2))) ∧ Below w.heap.size w w' := by
  obtain ⟨i0, hi, hz0, hz1, hz2⟩ := info_parts infoU
  have hN1 := Lib.hid n1
  have hN2 := Lib.hid n2
  clear n1 n2
  go_enter Tryz.func103, Tryz.ntmps103
  go_wp2_with fail
  go_loop [3, 11] (fun s i => (i = .int .i64 (0 : Nat) ∧ s = .int .i64 (0 : Nat)) ∨ (i = .int .i64 (1 : Nat) ∧ s = .int .i64 l1.length) ∨ (i = .int .i64 (2 : Nat) ∧ s = .int .i64 (l1.length + l2.length : Nat))) (fun _ i => 2 - (intOf i).toNat)
  case atStart => exact Or.inl ⟨rfl, rfl⟩
  case round =>
    rcases hrel with ⟨rfl, rfl⟩ | ⟨rfl, rfl⟩ | ⟨rfl, rfl⟩
    · have hp : ¬ (l1.length : Int) < 0 := by omega
      go_wp2_with fail
      go_round
      case rel => exact Or.inr (Or.inl ⟨by go_num, by go_num⟩)
      case measure => first | (simp [intOf]; done) | (simp [intOf]; omega)
    · have hp : ¬ (l1.length : Int) + (l2.length : Int) < 0 := by omega
      go_wp2_with fail
      go_round
      case rel => exact Or.inr (Or.inr ⟨by go_num, by go_num⟩)
      case measure => first | (simp [intOf]; done) | (simp [intOf]; omega)
    · go_wp2_with fail
      refine (grow_nil (l1.length + l2.length) (by omega) w).mono ?_
      rintro e w1 ⟨⟨v1, rfl, hown1⟩, hB1⟩
      go_wp2_with fail
      go_loopw [6, 27] (fun v i wr => ((i = .int .i64 (0 : Nat) ∧ wr.ownsRow w.heap.size 39 4 v 0 []) ∨ (i = .int .i64 (1 : Nat) ∧ wr.ownsRow w.heap.size 39 4 v l1.length (cellsU l1)) ∨ (i = .int .i64 (2 : Nat) ∧ wr.ownsRow w.heap.size 39 4 v (l1 ++ l2).length (cellsU (l1 ++ l2)))) ∧ Below w.heap.size w wr) (fun _ i _ => 2 - (intOf i).toNat)
      case atStart => exact ⟨Or.inl ⟨rfl, hown1⟩, hB1⟩
      case round =>
        obtain ⟨hrel, hB⟩ := hrel
        have k1 := (hB.cell (p := ⟨cb, 0, none⟩) hcb).trans h1
        have k2 := (hB.cell (p := ⟨cb, 1, none⟩) hcb).trans h2
        rcases hrel with ⟨rfl, hown⟩ | ⟨rfl, hown⟩ | ⟨rfl, hown⟩
        · go_wp2_with (at_builtin; refine wpList_append_src _ rfl _ _ 101 rfl w.heap.size 39 i0 (.agg #[.int .u8 0, .string ByteArray.empty, .string ByteArray.empty, .int .u64 0]) 4 48 Tryz.underlying101 hi hz0 hz1 hz2 rfl (by decide) _ 0 _ rfl hown a1 l1.length c1 (cellsU l1) rfl (cellsU_len _) hN1.out (src_cells (s1.kept hB (Nat.le_refl _))) (cellsU_oneCell _) (by unfold maxLen; omega) (by omega) hB.size ?_; intro v' w2 hown' hgrow hat)
          go_roundw
          case rel => exact ⟨Or.inr (Or.inl ⟨by go_num, by rw [Nat.zero_add, List.nil_append] at hown'; exact hown'⟩), below_grown hB hgrow (fun k e => (hown.lt k e).1) hB.size⟩
          case measure => first | (simp [intOf]; done) | (simp [intOf]; omega)
        · go_wp2_with (at_builtin; refine wpList_append_src _ rfl _ _ 101 rfl w.heap.size 39 i0 (.agg #[.int .u8 0, .string ByteArray.empty, .string ByteArray.empty, .int .u64 0]) 4 48 Tryz.underlying101 hi hz0 hz1 hz2 rfl (by decide) _ l1.length _ rfl hown a2 l2.length c2 (cellsU l2) rfl (cellsU_len _) hN2.out (src_cells (s2.kept hB (Nat.le_refl _))) (cellsU_oneCell _) (by unfold maxLen; omega) (by omega) hB.size ?_; intro v' w2 hown' hgrow hat)
          go_roundw
          case rel => exact ⟨Or.inr (Or.inr ⟨by go_num, by rw [List.length_append, cellsU_append]; exact hown'⟩), below_grown hB hgrow (fun k e => (hown.lt k e).1) hB.size⟩
          case measure => first | (simp [intOf]; done) | (simp [intOf]; omega)
        · go_wp2_with fail
          go_ret
          exact ⟨⟨_, rfl, hown⟩, hB⟩

end Go.Proofs.YtafciefjlkdecaaGreat

namespace Go.Proofs.YtafciefjlkdecaaGreat
open Go.RowKit

theorem elemU : Tryz.prog.elem 101 = 39 := by kernel_rfl
theorem underU : Tryz.prog.underlying 101 = some (.slice (Tryz.prog.elem 101)) := by rw [elemU]; exact Tryz.underlying101
theorem sizeElemU (w : World) : (sizeOf (Tryz.prog.elem 101)).run Tryz.prog w = .ok 4 w := by kernel_rfl
/-- A piece of a slice of updates. -/
theorem part_mid (ao : Option Addr) (n c i k : Nat) (l : List Upd) (w : World) (hs : SlAt Upd.cells 4 w ao l) (hl : l.length = n) (hnc : n ≤ c) (hc : (c : Int) ≤ 9223372036854775807) (hik : i ≤ k) (hkn : k ≤ n) (hno : ao = none → c = 0) :
    ∃ A, (∀ w, (Instr.slice 101 (.slice ao n c) (some (.int .i64 (i : Int))) (some (.int .i64 (k : Int))) none).run Tryz.prog w = .ok (.slice A (k - i) (c - i)) w) ∧ SlU w (.slice A (k - i) (c - i)) ((l.drop i).take (k - i)) := by
  have hlen : ((l.drop i).take (k - i)).length = k - i := by rw [List.length_take, List.length_drop]; omega
  refine ⟨if c = i then ao else ao.map (·.add (i * 4)), fun w => ?_, ?_⟩
  · rw [run_slice_lh w 101 ao n c underU .i64 .i64 i k (by omega) (by omega) (by omega)]
    rw [sizeElemU]; rfl
  · refine ⟨_, c - i, by rw [hlen], ?_, by rw [hlen]; omega, by omega, fun e => ?_⟩
    · by_cases h0 : i < n
      · rw [if_neg (by omega)]
        obtain ⟨b, off, rfl, hb, hcc⟩ := hs.at (by omega)
        rw [show (some (⟨b, off, none⟩ : Addr)).map (·.add (i * 4)) = some ⟨b, off + i * 4, none⟩ by simp [Addr.add]]
        exact (hs.drop i b off rfl).cut _
      · exact Or.inl (List.eq_nil_of_length_eq_zero (by omega))
    · by_cases h0 : c = i
      · omega
      · rw [if_neg h0] at e
        cases ao with
        | none => have := hno rfl; omega
        | some a => simp at e
theorem part_low (ao : Option Addr) (n c i : Nat) (l : List Upd) (w : World) (hs : SlAt Upd.cells 4 w ao l) (hl : l.length = n) (hnc : n ≤ c) (hc : (c : Int) ≤ 9223372036854775807) (hin : i ≤ n) (hno : ao = none → c = 0) :
    (∀ w, (Instr.slice 101 (.slice ao n c) none (some (.int .i64 (i : Int))) none).run Tryz.prog w = .ok (.slice ao i c) w) ∧ SlU w (.slice ao i c) (l.take i) := by
  refine ⟨fun w => ?_, ?_⟩
  · rw [run_slice_h w 101 ao n c underU .i64 i (by omega) (by omega)]
    rw [sizeElemU]
    have e : ao.map (·.add 0) = ao := by cases ao <;> simp [Addr.add]
    simp [Result.andThen, sliced, e]
  · have hlen : (l.take i).length = i := by rw [List.length_take]; omega
    exact ⟨ao, c, by rw [hlen], hs.cut i, by rw [hlen]; omega, hc, hno⟩
theorem part_high (ao : Option Addr) (n c k : Nat) (l : List Upd) (w : World) (hs : SlAt Upd.cells 4 w ao l) (hl : l.length = n) (hnc : n ≤ c) (hc : (c : Int) ≤ 9223372036854775807) (hkn : k ≤ n) (hno : ao = none → c = 0) :
    ∃ A, (∀ w, (Instr.slice 101 (.slice ao n c) (some (.int .i64 (k : Int))) none none).run Tryz.prog w = .ok (.slice A (n - k) (c - k)) w) ∧ SlU w (.slice A (n - k) (c - k)) (l.drop k) := by
  obtain ⟨A, -, h2⟩ := part_mid ao n c k n l w hs hl hnc hc hkn (Nat.le_refl _) hno
  have e : (l.drop k).take (n - k) = l.drop k := List.take_of_length_le (by rw [List.length_drop]; omega)
  rw [e] at h2
  refine ⟨if c = k then ao else ao.map (·.add (k * 4)), fun w => ?_, ?_⟩
  · rw [run_slice_l w 101 ao n c underU .i64 k (by omega) (by omega)]
    rw [sizeElemU]; rfl
  · have hlen : (l.drop k).length = n - k := by rw [List.length_drop]; omega
    refine ⟨_, c - k, by rw [hlen], ?_, by rw [hlen]; omega, by omega, fun e => ?_⟩
    · by_cases h0 : k < n
      · rw [if_neg (by omega)]
        obtain ⟨b, off, rfl, hb, hcc⟩ := hs.at (by omega)
        rw [show (some (⟨b, off, none⟩ : Addr)).map (·.add (k * 4)) = some ⟨b, off + k * 4, none⟩ by simp [Addr.add]]
        exact hs.drop k b off rfl
      · exact Or.inl (List.eq_nil_of_length_eq_zero (by omega))
    · by_cases h0 : c = k
      · omega
      · rw [if_neg h0] at e
        cases ao with
        | none => have := hno rfl; omega
        | some a => simp at e

theorem concat_len (cb : Nat) (a1 a2 : Option Addr) (n1 n2 c1 c2 : Nat) (l1 l2 : List Upd) (w : World) (hcb : cb < w.heap.size) (h1 : w.cell? ⟨cb, 0, none⟩ = some (.slice a1 n1 c1)) (h2 : w.cell? ⟨cb, 1, none⟩ = some (.slice a2 n2 c2))
    (s1 : SlU w (.slice a1 n1 c1) l1) (s2 : SlU w (.slice a2 n2 c2) l2) (hl1 : l1.length ≤ 100000) (hl2 : l2.length ≤ 100000) :
    Calls Tryz.prog 103 #[.slice (some ⟨cb, 0, none⟩) 2 2] w fun e w' => (∃ v', e = .returned v' ∧ w'.ownsRow w.heap.size 39 4 v' (l1 ++ l2).length (cellsU (l1 ++ l2))) ∧ Below w.heap.size w w' := by
  obtain ⟨b1, d1, e1, t1, u1, -, m1⟩ := s1
  obtain ⟨b2, d2, e2, t2, u2, -, m2⟩ := s2
  simp only [Value.slice.injEq] at e1 e2
  obtain ⟨rfl, rfl, rfl⟩ := e1
  obtain ⟨rfl, rfl, rfl⟩ := e2
  exact concat_two cb a1 a2 c1 c2 l1 l2 w hcb h1 h2 t1 t2 (fun e => by have := m1 e; omega) (fun e => by have := m2 e; omega) hl1 hl2

theorem two_boxes {w5 : World} {z B3 B5 n3 n5 : Nat} {v3 v5 : Value} {l3 l5 : List Upd} (h3 : w5.ownsRow B3 39 4 v3 n3 (cellsU l3)) (h5 : w5.ownsRow B5 39 4 v5 n5 (cellsU l5)) (hz3 : z + 1 + 1 < B3) (hz5 : z + 1 + 1 < B5) (u u' : Value) :
    BoxU ((w5.setCell ⟨z + 1, 0, none⟩ u).setCell ⟨z + 1 + 1, 0, none⟩ u') (.agg #[v3]) l3 ∧ BoxU ((w5.setCell ⟨z + 1, 0, none⟩ u).setCell ⟨z + 1 + 1, 0, none⟩ u') (.agg #[v5]) l5 := by
  have a3 : v3.ownBlock ≠ some (z + 1) := fun e => by have := (h3.lt _ e).1; omega
  have b3 : v3.ownBlock ≠ some (z + 1 + 1) := fun e => by have := (h3.lt _ e).1; omega
  have a5 : v5.ownBlock ≠ some (z + 1) := fun e => by have := (h5.lt _ e).1; omega
  have b5 : v5.ownBlock ≠ some (z + 1 + 1) := fun e => by have := (h5.lt _ e).1; omega
  exact ⟨BoxU.of_own (ownsRow_setCell_other (a := ⟨z + 1 + 1, 0, none⟩) (ownsRow_setCell_other (a := ⟨z + 1, 0, none⟩) h3 a3 u) b3 u'), BoxU.of_own (ownsRow_setCell_other (a := ⟨z + 1 + 1, 0, none⟩) (ownsRow_setCell_other (a := ⟨z + 1, 0, none⟩) h5 a5 u) b5 u')⟩

/-- Where the cut ends. -/
def cutEnd (l : List Upd) (low high : List UInt8) : Nat := max (below Upd.key l low) (if high = [] then l.length else below Upd.key l high)
theorem cutEnd_le (l : List Upd) (low high : List UInt8) : below Upd.key l low ≤ cutEnd l low high ∧ cutEnd l low high ≤ l.length := by
  have h1 := below_le (key := Upd.key) l low
  have h2 := below_le (key := Upd.key) l high
  unfold cutEnd
  split <;> omega
/-- Those within, and all others. -/
def cutIn (l : List Upd) (low high : List UInt8) : List Upd := (l.drop (below Upd.key l low)).take (cutEnd l low high - below Upd.key l low)
def cutOut (l : List Upd) (low high : List UInt8) : List Upd := l.take (below Upd.key l low) ++ l.drop (cutEnd l low high)

set_option maxRecDepth 100000 in
set_option maxHeartbeats 4000000 in
theorem cut_all (v : Value) (l : List Upd) (low : List UInt8) (w : World) (hv : BoxU w v l) (hl : l.length ≤ 100000) (hr : Rising Upd.key l) :
    Calls Tryz.prog 78 #[v, .string (S low), .string (S [])] w fun e w' => (∃ v1 v2, e = .returned (.tuple #[v1, v2]) ∧ BoxU w' v1 (cutIn l low []) ∧ BoxU w' v2 (cutOut l low [])) ∧ Below w.heap.size w w' := by
  have hmax := fun ts t a b w => run_bmax (P := Tryz.prog) ts t a b w
  have hfind := fun w hv => findU v l low w hv (by omega) hr
  obtain ⟨hce1, hce2⟩ := cutEnd_le l low []
  have hbm : bmax (below Upd.key l low : Nat) (l.length : Nat) = ((cutEnd l low [] : Nat) : Int) := by rw [bmax_nat]; unfold cutEnd; rw [if_pos rfl]
  obtain ⟨s, rfl, hs⟩ := hv
  obtain ⟨ao, c, rfl, hs0, hc1, hc2, hn⟩ := hs
  obtain ⟨A1, hsl1, hp1⟩ := part_mid ao l.length c (below Upd.key l low) (cutEnd l low []) l w hs0 rfl hc1 hc2 hce1 hce2 hn
  obtain ⟨hsl2, hp2⟩ := part_low ao l.length c (below Upd.key l low) l w hs0 rfl hc1 hc2 (by omega) hn
  obtain ⟨A3, hsl3, hp3⟩ := part_high ao l.length c (cutEnd l low []) l w hs0 rfl hc1 hc2 hce2 hn
  have HF := Lib.hid hfind
  have HS := Lib.hid (show SlU w (.slice ao l.length c) l from ⟨ao, c, rfl, hs0, hc1, hc2, hn⟩)
  have HL1 := Lib.hid (show ((l.drop (below Upd.key l low)).take (cutEnd l low [] - below Upd.key l low)).length ≤ 1000000 by rw [List.length_take, List.length_drop]; omega)
  have HL2 := Lib.hid (show (l.take (below Upd.key l low)).length ≤ 100000 by rw [List.length_take]; omega)
  have HL3 := Lib.hid (show (l.drop (cutEnd l low [])).length ≤ 100000 by rw [List.length_drop]; omega)
  have HP1 := Lib.hid hp1
  have HP2 := Lib.hid hp2
  have HP3 := Lib.hid hp3
  have hin : Hid (cutIn l low [] = (l.drop (below Upd.key l low)).take (cutEnd l low [] - below Upd.key l low)) := Lib.hid rfl
  have hout : Hid (cutOut l low [] = l.take (below Upd.key l low) ++ l.drop (cutEnd l low [])) := Lib.hid rfl
  clear hfind hn hs0 hr hp1 hp2 hp3
  generalize hi : below Upd.key l low = i at *
  generalize hK : cutEnd l low [] = K at *
  clear hi hK
  have HE : Hid (l.take i ++ l.drop K = l.take i ++ l.drop K) := Lib.hid rfl
  generalize (l.drop i).take (K - i) = L1 at *
  generalize l.take i = L2 at *
  generalize l.drop K = L3 at *
  clear HE
  go_enter Tryz.func78, Tryz.ntmps78
  go_wp2_with fail
  refine (thread (HF.out _ ⟨_, rfl, HS.out.kept (by go_grown) (Nat.le_refl _)⟩) w.heap.size w (by go_grown) (by go_grown)).mono ?_
  rintro e w1 ⟨rfl, hB1, hk1, hf1, hs1, hz1⟩
  have hs1' : w.heap.size + 1 + 1 < w1.heap.size := by simp at hs1; omega
  have p0 := (hk1 w.heap.size 0 (by first | (simp; done) | (simp; omega))).trans (by simp [go_sem]; rfl)
  have p1 := (hk1 (w.heap.size + 1) 0 (by first | (simp; done) | (simp; omega))).trans (by simp [go_sem]; rfl)
  have p2 := (hk1 (w.heap.size + 1 + 1) 0 (by first | (simp; done) | (simp; omega))).trans (by simp [go_sem]; rfl)
  have p3 : w1.frozen? ⟨w.heap.size + 1, 0, none⟩ = false := (hf1 (w.heap.size + 1) 0 (by first | (simp; done) | (simp; omega))).trans (by simp [go_sem])
  have p4 : w1.frozen? ⟨w.heap.size + 1 + 1, 0, none⟩ = false := (hf1 (w.heap.size + 1 + 1) 0 (by first | (simp; done) | (simp; omega))).trans (by simp [go_sem])
  clear hk1 hf1 hs1
  go_wp2_with fail
  go_region_held3 (fun w' => w'.cell? ⟨w.heap.size, 0, none⟩ = some (.slice ao l.length c) ∧ w1.heap.size ≤ w'.heap.size)
  (first | assumption | (constructor <;> (first | assumption | exact k0 _ | exact k1 _ _ | (go_keep; done) | (simp; done) | (simp; omega))))
  (first
    | (go_at_call 94; with_reducible show Calls _ _ _ (World.drew w1) _; go_must (obtain ⟨x0, x1⟩ := ‹_ ∧ _›; refine (thread (cloneU _ _ _ (HP1.out.kept (by go_grown) (Nat.le_refl _)) HL1.out) w.heap.size w (by go_grown) (by go_grown)).mono ?_; rintro e w3 ⟨⟨v3, rfl, hown3⟩, hB3, hk3, hf3, hs3, hz3⟩; obtain ⟨a3, c3, e3⟩ := own_form hown3; subst e3; have y0 := (hk3 w.heap.size 0 (by first | omega | (simp at *; omega))).trans x0; have y1 := (hk3 (w.heap.size + 1) 0 (by first | omega | (simp at *; omega))).trans (cell_drew p1); have y2 := (hk3 (w.heap.size + 1 + 1) 0 (by first | omega | (simp at *; omega))).trans (cell_drew p2); have y3 := (hf3 (w.heap.size + 1) 0 (by first | omega | (simp at *; omega))).trans (frozen_drew p3); have y4 := (hf3 (w.heap.size + 1 + 1) 0 (by first | omega | (simp at *; omega))).trans (frozen_drew p4); have y5 := Nat.le_trans x1 hs3))
    | (go_at_call 94; with_reducible show Calls _ _ _ (World.drew (World.alloc w1 _)) _; go_must (obtain ⟨x0, x1⟩ := ‹_ ∧ _›; refine (thread (cloneU _ _ _ (HP1.out.kept (by go_grown) (Nat.le_refl _)) HL1.out) w.heap.size w (by go_grown) (by go_grown)).mono ?_; rintro e w3 ⟨⟨v3, rfl, hown3⟩, hB3, hk3, hf3, hs3, hz3⟩; obtain ⟨a3, c3, e3⟩ := own_form hown3; subst e3; have y0 := (hk3 w.heap.size 0 (by first | omega | (simp at *; omega))).trans x0; have y1 := (hk3 (w.heap.size + 1) 0 (by first | omega | (simp at *; omega))).trans (cell_drew (cell_past _ p1)); have y2 := (hk3 (w.heap.size + 1 + 1) 0 (by first | omega | (simp at *; omega))).trans (cell_drew (cell_past _ p2)); have y3 := (hf3 (w.heap.size + 1) 0 (by first | omega | (simp at *; omega))).trans (frozen_drew ((World.frozen?_alloc_old _ _ _ (by show w.heap.size + 1 ≠ _; omega)).trans p3)); have y4 := (hf3 (w.heap.size + 1 + 1) 0 (by first | omega | (simp at *; omega))).trans (frozen_drew ((World.frozen?_alloc_old _ _ _ (by show w.heap.size + 1 + 1 ≠ _; omega)).trans p4)); have y5 := Nat.le_trans x1 hs3; have m0 := (hk3 w1.heap.size 0 (by simp)).trans (cell_drew (show _ = some (.slice ao i c) by simp)); have m1 := (hk3 w1.heap.size 1 (by simp)).trans (cell_drew (show _ = some (.slice A3 (l.length - K) (c - K)) by simp)); have mlt : w1.heap.size < w3.heap.size := Nat.lt_of_lt_of_le (by simp) hs3))
    | (go_at_call 103; with_reducible show Calls _ _ _ (World.alloc _ _) _; refine (concat_len w3.heap.size ao A3 i (l.length - K) c (c - K) _ _ _ (by simp) (by simp) (by simp) (HP2.out.kept (by go_grown) (Nat.le_refl _)) (HP3.out.kept (by go_grown) (Nat.le_refl _)) HL2.out HL3.out).mono ?_; rintro e w5 ⟨⟨v5, rfl, hown5⟩, hb5⟩; obtain ⟨a5, c5, e5⟩ := own_form hown5; subst e5; have hown3' := own_below (hown3.alloc _) hb5; have hB5 := (hB3.alloc hz3 _).trans (below_same hb5 (by simp; omega)); have z0 := ((bcell hb5).1 w.heap.size 0 (by simp; omega)).trans (cell_past _ y0); have z1 := ((bcell hb5).1 (w.heap.size + 1) 0 (by simp; omega)).trans (cell_past _ y1); have z2 := ((bcell hb5).1 (w.heap.size + 1 + 1) 0 (by simp; omega)).trans (cell_past _ y2); have z3 := ((bcell hb5).2 (w.heap.size + 1) 0 (by simp; omega)).trans ((World.frozen?_alloc_old _ _ _ (by show w.heap.size + 1 ≠ _; omega)).trans y3); have z4 := ((bcell hb5).2 (w.heap.size + 1 + 1) 0 (by simp; omega)).trans ((World.frozen?_alloc_old _ _ _ (by show w.heap.size + 1 + 1 ≠ _; omega)).trans y4); have z5 : w1.heap.size ≤ w5.heap.size := Nat.le_trans (by simp; omega) hb5.size; have k0 : ∀ u, (w5.setCell ⟨w.heap.size + 1, 0, none⟩ u).cell? ⟨w.heap.size, 0, none⟩ = some (.slice ao l.length c) := fun u => far_block (by omega) z0; have k1 : ∀ u u', ((w5.setCell ⟨w.heap.size + 1, 0, none⟩ u).setCell ⟨w.heap.size + 1 + 1, 0, none⟩ u').cell? ⟨w.heap.size, 0, none⟩ = some (.slice ao l.length c) := fun u u' => far_block (by omega) (k0 u))
    | (go_at_call 103; refine (concat_len w1.heap.size ao A3 i (l.length - K) c (c - K) _ _ _ mlt m0 m1 (HP2.out.kept (by go_grown) (Nat.le_refl _)) (HP3.out.kept (by go_grown) (Nat.le_refl _)) HL2.out HL3.out).mono ?_; rintro e w5 ⟨⟨v5, rfl, hown5⟩, hb5⟩; obtain ⟨a5, c5, e5⟩ := own_form hown5; subst e5; have hown3' := own_below hown3 hb5; have hB5 := hB3.trans (below_same hb5 hz3); have z0 := ((bcell hb5).1 w.heap.size 0 (by omega)).trans y0; have z1 := ((bcell hb5).1 (w.heap.size + 1) 0 (by omega)).trans y1; have z2 := ((bcell hb5).1 (w.heap.size + 1 + 1) 0 (by omega)).trans y2; have z3 := ((bcell hb5).2 (w.heap.size + 1) 0 (by omega)).trans y3; have z4 := ((bcell hb5).2 (w.heap.size + 1 + 1) 0 (by omega)).trans y4; have z5 : w1.heap.size ≤ w5.heap.size := Nat.le_trans (by omega) hb5.size; have k0 : ∀ u, (w5.setCell ⟨w.heap.size + 1, 0, none⟩ u).cell? ⟨w.heap.size, 0, none⟩ = some (.slice ao l.length c) := fun u => far_block (by omega) z0; have k1 : ∀ u u', ((w5.setCell ⟨w.heap.size + 1, 0, none⟩ u).setCell ⟨w.heap.size + 1 + 1, 0, none⟩ u').cell? ⟨w.heap.size, 0, none⟩ = some (.slice ao l.length c) := fun u u' => far_block (by omega) (k0 u)))
  all_goals (
    have hown5' := hown5
    simp only [List.length_append] at hown5'
    have hbx := two_boxes (z := w.heap.size) hown3' hown5' (by first | (simp; omega) | (simp at *; omega)) (by first | omega | (simp; omega)) (.slice a3 L1.length c3) (.slice a5 (L2.length + L3.length) c5)
    have hbl := (hB5.setCell (p := ⟨w.heap.size + 1, 0, none⟩) (by show w.heap.size ≤ w.heap.size + 1; omega) (.slice a3 L1.length c3)).setCell (p := ⟨w.heap.size + 1 + 1, 0, none⟩) (by show w.heap.size ≤ w.heap.size + 1 + 1; omega) (.slice a5 (L2.length + L3.length) c5)
    have HX := Lib.hid hbx
    have HY := Lib.hid hbl
    clear hbx hbl hown3 hown3' hown5 hown5' hB3 hB5 hsl1 hsl2 hsl3 HS HF hmax hbm x0 x1 hk3 hf3 hs3 hz3
    have e1 : ((w5.setCell ⟨w.heap.size + 1, 0, none⟩ (.slice a3 L1.length c3)).setCell ⟨w.heap.size + 1 + 1, 0, none⟩ (.slice a5 (L2.length + L3.length) c5)).cell? ⟨w.heap.size + 1, 0, none⟩ = some (.slice a3 L1.length c3) := far_block (by omega) (World.cell?_setCell_same' _ _ _ (by rw [z1]; rfl))
    have e2 : ((w5.setCell ⟨w.heap.size + 1, 0, none⟩ (.slice a3 L1.length c3)).setCell ⟨w.heap.size + 1 + 1, 0, none⟩ (.slice a5 (L2.length + L3.length) c5)).cell? ⟨w.heap.size + 1 + 1, 0, none⟩ = some (.slice a5 (L2.length + L3.length) c5) := World.cell?_setCell_same' _ _ _ (by rw [far_block (by omega) z2]; rfl)
    generalize (w5.setCell ⟨w.heap.size + 1, 0, none⟩ (.slice a3 L1.length c3)).setCell ⟨w.heap.size + 1 + 1, 0, none⟩ (.slice a5 (L2.length + L3.length) c5) = wf at *
    clear z0 z1 z2 z3 z4 z5 k0 k1
    go_wp2_with fail
    exact bodyPost_ret (v := .tuple #[.agg #[.slice a3 L1.length c3], .agg #[.slice a5 (L2.length + L3.length) c5]]) (by simp [results, Tryz.results78, go_sem, e1, e2]) rfl ⟨⟨_, _, rfl, by rw [hin.out]; exact HX.out.1, by rw [hout.out]; exact HX.out.2⟩, HY.out⟩)

end Go.Proofs.YtafciefjlkdecaaGreat

namespace Go.Proofs.YtafciefjlkdecaaGreat
open Go.RowKit

set_option maxRecDepth 100000 in
set_option maxHeartbeats 4000000 in
theorem cut_some (v : Value) (l : List Upd) (low high : List UInt8) (w : World) (hne : high ≠ []) (hv : BoxU w v l) (hl : l.length ≤ 100000) (hr : Rising Upd.key l) :
    Calls Tryz.prog 78 #[v, .string (S low), .string (S high)] w fun e w' => (∃ v1 v2, e = .returned (.tuple #[v1, v2]) ∧ BoxU w' v1 (cutIn l low high) ∧ BoxU w' v2 (cutOut l low high)) ∧ Below w.heap.size w w' := by
  have hmax := fun ts t a b w => run_bmax (P := Tryz.prog) ts t a b w
  have hfind := fun w hv => findU v l low w hv (by omega) hr
  obtain ⟨hce1, hce2⟩ := cutEnd_le l low high
  have hbm : bmax (below Upd.key l low : Nat) (below Upd.key l high : Nat) = ((cutEnd l low high : Nat) : Int) := by rw [bmax_nat]; unfold cutEnd; rw [if_neg hne]
  have hemp : high.isEmpty = false := by cases high <;> simp at hne ⊢
  have hfind2 := fun w hv => findU v l high w hv (by omega) hr
  obtain ⟨s, rfl, hs⟩ := hv
  obtain ⟨ao, c, rfl, hs0, hc1, hc2, hn⟩ := hs
  obtain ⟨A1, hsl1, hp1⟩ := part_mid ao l.length c (below Upd.key l low) (cutEnd l low high) l w hs0 rfl hc1 hc2 hce1 hce2 hn
  obtain ⟨hsl2, hp2⟩ := part_low ao l.length c (below Upd.key l low) l w hs0 rfl hc1 hc2 (by omega) hn
  obtain ⟨A3, hsl3, hp3⟩ := part_high ao l.length c (cutEnd l low high) l w hs0 rfl hc1 hc2 hce2 hn
  have HF := Lib.hid hfind
  have HF2 := Lib.hid hfind2
  have HS := Lib.hid (show SlU w (.slice ao l.length c) l from ⟨ao, c, rfl, hs0, hc1, hc2, hn⟩)
  have HL1 := Lib.hid (show ((l.drop (below Upd.key l low)).take (cutEnd l low high - below Upd.key l low)).length ≤ 1000000 by rw [List.length_take, List.length_drop]; omega)
  have HL2 := Lib.hid (show (l.take (below Upd.key l low)).length ≤ 100000 by rw [List.length_take]; omega)
  have HL3 := Lib.hid (show (l.drop (cutEnd l low high)).length ≤ 100000 by rw [List.length_drop]; omega)
  have HP1 := Lib.hid hp1
  have HP2 := Lib.hid hp2
  have HP3 := Lib.hid hp3
  have hin : Hid (cutIn l low high = (l.drop (below Upd.key l low)).take (cutEnd l low high - below Upd.key l low)) := Lib.hid rfl
  have hout : Hid (cutOut l low high = l.take (below Upd.key l low) ++ l.drop (cutEnd l low high)) := Lib.hid rfl
  clear hfind hfind2 hn hs0 hr hp1 hp2 hp3 hne
  generalize hi : below Upd.key l low = i at *
  generalize hK : cutEnd l low high = K at *
  generalize hj : below Upd.key l high = j at *
  clear hi hK hj
  have HE : Hid (l.take i ++ l.drop K = l.take i ++ l.drop K) := Lib.hid rfl
  generalize (l.drop i).take (K - i) = L1 at *
  generalize l.take i = L2 at *
  generalize l.drop K = L3 at *
  clear HE
  go_enter Tryz.func78, Tryz.ntmps78
  go_wp2_with fail
  refine (thread (HF.out _ ⟨_, rfl, HS.out.kept (by go_grown) (Nat.le_refl _)⟩) w.heap.size w (by go_grown) (by go_grown)).mono ?_
  rintro e w1a ⟨rfl, hB1a, hk1, hf1, hs1, hz1a⟩
  have hs1a' : w.heap.size + 1 + 1 < w1a.heap.size := by simp at hs1; omega
  have p0a := (hk1 w.heap.size 0 (by first | (simp; done) | (simp; omega))).trans (by simp [go_sem]; rfl)
  have p1a := (hk1 (w.heap.size + 1) 0 (by first | (simp; done) | (simp; omega))).trans (by simp [go_sem]; rfl)
  have p2a := (hk1 (w.heap.size + 1 + 1) 0 (by first | (simp; done) | (simp; omega))).trans (by simp [go_sem]; rfl)
  have p3a : w1a.frozen? ⟨w.heap.size + 1, 0, none⟩ = false := (hf1 (w.heap.size + 1) 0 (by first | (simp; done) | (simp; omega))).trans (by simp [go_sem])
  have p4a : w1a.frozen? ⟨w.heap.size + 1 + 1, 0, none⟩ = false := (hf1 (w.heap.size + 1 + 1) 0 (by first | (simp; done) | (simp; omega))).trans (by simp [go_sem])
  clear hk1 hf1 hs1
  go_wp2_with fail
  refine (thread (HF2.out _ ⟨_, rfl, HS.out.kept hB1a (Nat.le_refl _)⟩) w.heap.size w hB1a hz1a).mono ?_
  rintro e w1 ⟨rfl, hB1, hk1, hf1, hs1, hz1⟩
  have hs1' : w.heap.size + 1 + 1 < w1.heap.size := by omega
  have p0 := (hk1 w.heap.size 0 (by omega)).trans p0a
  have p1 := (hk1 (w.heap.size + 1) 0 (by omega)).trans p1a
  have p2 := (hk1 (w.heap.size + 1 + 1) 0 (by omega)).trans p2a
  have p3 := (hf1 (w.heap.size + 1) 0 (by omega)).trans p3a
  have p4 := (hf1 (w.heap.size + 1 + 1) 0 (by omega)).trans p4a
  clear hk1 hf1 hs1 hB1a hz1a hs1a' p0a p1a p2a p3a p4a
  go_wp2_with fail
  go_region_held3 (fun w' => w'.cell? ⟨w.heap.size, 0, none⟩ = some (.slice ao l.length c) ∧ w1.heap.size ≤ w'.heap.size)
  (first | assumption | (constructor <;> (first | assumption | exact k0 _ | exact k1 _ _ | (go_keep; done) | (simp; done) | (simp; omega))))
  (first
    | (go_at_call 94; with_reducible show Calls _ _ _ (World.drew w1) _; go_must (obtain ⟨x0, x1⟩ := ‹_ ∧ _›; refine (thread (cloneU _ _ _ (HP1.out.kept (by go_grown) (Nat.le_refl _)) HL1.out) w.heap.size w (by go_grown) (by go_grown)).mono ?_; rintro e w3 ⟨⟨v3, rfl, hown3⟩, hB3, hk3, hf3, hs3, hz3⟩; obtain ⟨a3, c3, e3⟩ := own_form hown3; subst e3; have y0 := (hk3 w.heap.size 0 (by first | omega | (simp at *; omega))).trans x0; have y1 := (hk3 (w.heap.size + 1) 0 (by first | omega | (simp at *; omega))).trans (cell_drew p1); have y2 := (hk3 (w.heap.size + 1 + 1) 0 (by first | omega | (simp at *; omega))).trans (cell_drew p2); have y3 := (hf3 (w.heap.size + 1) 0 (by first | omega | (simp at *; omega))).trans (frozen_drew p3); have y4 := (hf3 (w.heap.size + 1 + 1) 0 (by first | omega | (simp at *; omega))).trans (frozen_drew p4); have y5 := Nat.le_trans x1 hs3))
    | (go_at_call 94; with_reducible show Calls _ _ _ (World.drew (World.alloc w1 _)) _; go_must (obtain ⟨x0, x1⟩ := ‹_ ∧ _›; refine (thread (cloneU _ _ _ (HP1.out.kept (by go_grown) (Nat.le_refl _)) HL1.out) w.heap.size w (by go_grown) (by go_grown)).mono ?_; rintro e w3 ⟨⟨v3, rfl, hown3⟩, hB3, hk3, hf3, hs3, hz3⟩; obtain ⟨a3, c3, e3⟩ := own_form hown3; subst e3; have y0 := (hk3 w.heap.size 0 (by first | omega | (simp at *; omega))).trans x0; have y1 := (hk3 (w.heap.size + 1) 0 (by first | omega | (simp at *; omega))).trans (cell_drew (cell_past _ p1)); have y2 := (hk3 (w.heap.size + 1 + 1) 0 (by first | omega | (simp at *; omega))).trans (cell_drew (cell_past _ p2)); have y3 := (hf3 (w.heap.size + 1) 0 (by first | omega | (simp at *; omega))).trans (frozen_drew ((World.frozen?_alloc_old _ _ _ (by show w.heap.size + 1 ≠ _; omega)).trans p3)); have y4 := (hf3 (w.heap.size + 1 + 1) 0 (by first | omega | (simp at *; omega))).trans (frozen_drew ((World.frozen?_alloc_old _ _ _ (by show w.heap.size + 1 + 1 ≠ _; omega)).trans p4)); have y5 := Nat.le_trans x1 hs3; have m0 := (hk3 w1.heap.size 0 (by simp)).trans (cell_drew (show _ = some (.slice ao i c) by simp)); have m1 := (hk3 w1.heap.size 1 (by simp)).trans (cell_drew (show _ = some (.slice A3 (l.length - K) (c - K)) by simp)); have mlt : w1.heap.size < w3.heap.size := Nat.lt_of_lt_of_le (by simp) hs3))
    | (go_at_call 103; with_reducible show Calls _ _ _ (World.alloc _ _) _; refine (concat_len w3.heap.size ao A3 i (l.length - K) c (c - K) _ _ _ (by simp) (by simp) (by simp) (HP2.out.kept (by go_grown) (Nat.le_refl _)) (HP3.out.kept (by go_grown) (Nat.le_refl _)) HL2.out HL3.out).mono ?_; rintro e w5 ⟨⟨v5, rfl, hown5⟩, hb5⟩; obtain ⟨a5, c5, e5⟩ := own_form hown5; subst e5; have hown3' := own_below (hown3.alloc _) hb5; have hB5 := (hB3.alloc hz3 _).trans (below_same hb5 (by simp; omega)); have z0 := ((bcell hb5).1 w.heap.size 0 (by simp; omega)).trans (cell_past _ y0); have z1 := ((bcell hb5).1 (w.heap.size + 1) 0 (by simp; omega)).trans (cell_past _ y1); have z2 := ((bcell hb5).1 (w.heap.size + 1 + 1) 0 (by simp; omega)).trans (cell_past _ y2); have z3 := ((bcell hb5).2 (w.heap.size + 1) 0 (by simp; omega)).trans ((World.frozen?_alloc_old _ _ _ (by show w.heap.size + 1 ≠ _; omega)).trans y3); have z4 := ((bcell hb5).2 (w.heap.size + 1 + 1) 0 (by simp; omega)).trans ((World.frozen?_alloc_old _ _ _ (by show w.heap.size + 1 + 1 ≠ _; omega)).trans y4); have z5 : w1.heap.size ≤ w5.heap.size := Nat.le_trans (by simp; omega) hb5.size; have k0 : ∀ u, (w5.setCell ⟨w.heap.size + 1, 0, none⟩ u).cell? ⟨w.heap.size, 0, none⟩ = some (.slice ao l.length c) := fun u => far_block (by omega) z0; have k1 : ∀ u u', ((w5.setCell ⟨w.heap.size + 1, 0, none⟩ u).setCell ⟨w.heap.size + 1 + 1, 0, none⟩ u').cell? ⟨w.heap.size, 0, none⟩ = some (.slice ao l.length c) := fun u u' => far_block (by omega) (k0 u))
    | (go_at_call 103; refine (concat_len w1.heap.size ao A3 i (l.length - K) c (c - K) _ _ _ mlt m0 m1 (HP2.out.kept (by go_grown) (Nat.le_refl _)) (HP3.out.kept (by go_grown) (Nat.le_refl _)) HL2.out HL3.out).mono ?_; rintro e w5 ⟨⟨v5, rfl, hown5⟩, hb5⟩; obtain ⟨a5, c5, e5⟩ := own_form hown5; subst e5; have hown3' := own_below hown3 hb5; have hB5 := hB3.trans (below_same hb5 hz3); have z0 := ((bcell hb5).1 w.heap.size 0 (by omega)).trans y0; have z1 := ((bcell hb5).1 (w.heap.size + 1) 0 (by omega)).trans y1; have z2 := ((bcell hb5).1 (w.heap.size + 1 + 1) 0 (by omega)).trans y2; have z3 := ((bcell hb5).2 (w.heap.size + 1) 0 (by omega)).trans y3; have z4 := ((bcell hb5).2 (w.heap.size + 1 + 1) 0 (by omega)).trans y4; have z5 : w1.heap.size ≤ w5.heap.size := Nat.le_trans (by omega) hb5.size; have k0 : ∀ u, (w5.setCell ⟨w.heap.size + 1, 0, none⟩ u).cell? ⟨w.heap.size, 0, none⟩ = some (.slice ao l.length c) := fun u => far_block (by omega) z0; have k1 : ∀ u u', ((w5.setCell ⟨w.heap.size + 1, 0, none⟩ u).setCell ⟨w.heap.size + 1 + 1, 0, none⟩ u').cell? ⟨w.heap.size, 0, none⟩ = some (.slice ao l.length c) := fun u u' => far_block (by omega) (k0 u)))
  all_goals (
    have hown5' := hown5
    simp only [List.length_append] at hown5'
    have hbx := two_boxes (z := w.heap.size) hown3' hown5' (by first | (simp; omega) | (simp at *; omega)) (by first | omega | (simp; omega)) (.slice a3 L1.length c3) (.slice a5 (L2.length + L3.length) c5)
    have hbl := (hB5.setCell (p := ⟨w.heap.size + 1, 0, none⟩) (by show w.heap.size ≤ w.heap.size + 1; omega) (.slice a3 L1.length c3)).setCell (p := ⟨w.heap.size + 1 + 1, 0, none⟩) (by show w.heap.size ≤ w.heap.size + 1 + 1; omega) (.slice a5 (L2.length + L3.length) c5)
    have HX := Lib.hid hbx
    have HY := Lib.hid hbl
    clear hbx hbl hown3 hown3' hown5 hown5' hB3 hB5 hsl1 hsl2 hsl3 HS HF hmax hbm x0 x1 hk3 hf3 hs3 hz3
    have e1 : ((w5.setCell ⟨w.heap.size + 1, 0, none⟩ (.slice a3 L1.length c3)).setCell ⟨w.heap.size + 1 + 1, 0, none⟩ (.slice a5 (L2.length + L3.length) c5)).cell? ⟨w.heap.size + 1, 0, none⟩ = some (.slice a3 L1.length c3) := far_block (by omega) (World.cell?_setCell_same' _ _ _ (by rw [z1]; rfl))
    have e2 : ((w5.setCell ⟨w.heap.size + 1, 0, none⟩ (.slice a3 L1.length c3)).setCell ⟨w.heap.size + 1 + 1, 0, none⟩ (.slice a5 (L2.length + L3.length) c5)).cell? ⟨w.heap.size + 1 + 1, 0, none⟩ = some (.slice a5 (L2.length + L3.length) c5) := World.cell?_setCell_same' _ _ _ (by rw [far_block (by omega) z2]; rfl)
    generalize (w5.setCell ⟨w.heap.size + 1, 0, none⟩ (.slice a3 L1.length c3)).setCell ⟨w.heap.size + 1 + 1, 0, none⟩ (.slice a5 (L2.length + L3.length) c5) = wf at *
    clear z0 z1 z2 z3 z4 z5 k0 k1
    go_wp2_with fail
    exact bodyPost_ret (v := .tuple #[.agg #[.slice a3 L1.length c3], .agg #[.slice a5 (L2.length + L3.length) c5]]) (by simp [results, Tryz.results78, go_sem, e1, e2]) rfl ⟨⟨_, _, rfl, by rw [hin.out]; exact HX.out.1, by rw [hout.out]; exact HX.out.2⟩, HY.out⟩)

theorem cut_any (v : Value) (l : List Upd) (low high : List UInt8) (w : World) (hv : BoxU w v l) (hl : l.length ≤ 100000) (hr : Rising Upd.key l) :
    Calls Tryz.prog 78 #[v, .string (S low), .string (S high)] w fun e w' => (∃ v1 v2, e = .returned (.tuple #[v1, v2]) ∧ BoxU w' v1 (cutIn l low high) ∧ BoxU w' v2 (cutOut l low high)) ∧ Below w.heap.size w w' := by
  by_cases h : high = []
  · subst h; exact cut_all v l low w hv hl hr
  · exact cut_some v l low high w h hv hl hr

end Go.Proofs.YtafciefjlkdecaaGreat

namespace Go.Proofs.YtafciefjlkdecaaGreat
open Go.RowKit

theorem infoB : (Tryz.prog.info? 5).map (fun i => (i.zero, i.size, i.bytes)) = some (some (.int .u8 0), 1, 1) := by kernel_rfl
/-- Bytes, as cells. -/
def bytesV (l : List UInt8) : List Value := l.map fun b => .int .u8 b.toNat
theorem bytesV_len (l : List UInt8) : (bytesV l).length = l.length := by simp [bytesV]
theorem bytesV_append (a b : List UInt8) : bytesV (a ++ b) = bytesV a ++ bytesV b := by simp [bytesV]
theorem nil_string (w : World) : (convert 22 9 (.slice none 0 0)).run Tryz.prog w = .ok (.string (S [])) w := by kernel_rfl
theorem map_back (l : List UInt8) : (l.map fun b => (b.toNat : Int)).map (fun n : Int => UInt8.ofNat n.toNat) = l := by
  rw [List.map_map]
  conv => rhs; rw [← List.map_id l]
  exact List.map_congr_left fun b _ => by simp
/-- 'string(b)', b a row of the call's own. -/
theorem own_string {B n : Nat} {v : Value} {l : List UInt8} {w : World} (h : w.ownsRow B 5 1 v n (bytesV l)) : (convert 22 9 v).run Tryz.prog w = .ok (.string (S l)) w := by
  have hn := h.1
  rw [bytesV_len, Nat.mul_one] at hn
  subst hn
  rcases ownsRow_open h with ⟨rfl, h0, -⟩ | ⟨g, cap, cur, rfl, -, hr, h3, -, h5, h6⟩
  · obtain rfl := List.eq_nil_of_length_eq_zero h0
    exact nil_string w
  · have := run_convert_bytes_arg (P := Tryz.prog) w 22 5 Tryz.underlying22 Tryz.underlying5 g 0 l.length cap (l.map fun b => (b.toNat : Int)) (by simp) (fun i hi => by
      rw [Nat.zero_add, hr.cell]
      have e : (bytesV l)[i]? = some (.int .u8 (l[i].toNat)) := by simp [bytesV, hi]
      rw [← h6, List.getElem?_take, if_pos (by omega)] at e
      rw [e]; simp [hi]) 9 Tryz.underlying9
    rw [this, strOfNums_S, map_back]

/-- Widths, and numbers. -/
abbrev IntsW (w : World) (ao : Option Addr) (ps : List (Nat × Nat)) : Prop := SlAt (fun p : Nat × Nat => [Value.int .i64 p.1]) 1 w ao ps
abbrev NumsW (w : World) (ao : Option Addr) (ps : List (Nat × Nat)) : Prop := SlAt (fun p : Nat × Nat => [Value.int .u64 p.2]) 1 w ao ps
/-- Each is a width. -/
def Wide (ps : List (Nat × Nat)) : Prop := ∀ p ∈ ps, 1 ≤ p.1 ∧ p.1 ≤ 8
def sumW : List (Nat × Nat) → Nat
  | [] => 0
  | p :: r => p.1 + sumW r
theorem sumW_snoc (l : List (Nat × Nat)) (p : Nat × Nat) : sumW (l ++ [p]) = sumW l + p.1 := by
  induction l with
  | nil => simp [sumW]
  | cons q l ih => simp [sumW, ih]; omega
theorem sumW_le : ∀ {l : List (Nat × Nat)}, Wide l → l.length ≤ sumW l ∧ sumW l ≤ 8 * l.length
  | [], _ => by simp [sumW]
  | p :: r, h => by
    have h1 := h p (by simp)
    have h2 := sumW_le (l := r) fun q hq => h q (by simp [hq])
    simp only [sumW, List.length_cons]; omega
theorem Wide.take {l : List (Nat × Nat)} (h : Wide l) (n : Nat) : Wide (l.take n) := fun p hp => h p (List.mem_of_mem_take hp)

set_option maxHeartbeats 400000 in
theorem may_yes (n : Nat) (h1 : 1 ≤ n) (h2 : n ≤ 8) (w : World) : Calls Tryz.prog 174 #[.int .i64 n] w fun e w' => e = .returned (.bool true) ∧ w = w' := by
  have h1' : (1 : Int) ≤ (n : Int) := by omega
  have h2' : (n : Int) ≤ 8 := by omega
  go_enter Tryz.func174, Tryz.ntmps174
  go_wp2
  go_ret
  exact ⟨rfl, rfl⟩

set_option maxHeartbeats 1000000 in
theorem size_any (ao : Option Addr) (c : Nat) (ps : List (Nat × Nat)) (w : World) (hs : IntsW w ao ps) (hw : Wide ps) (hl : ps.length ≤ 1000) :
    Calls Tryz.prog 152 #[.slice ao ps.length c] w fun e w' => e = .returned (.int .i64 (sumW ps)) ∧ w = w' := by
  go_enter Tryz.func152, Tryz.ntmps152
  go_wp2_with fail
  go_loop [3, 8] (fun s i => ∃ k : Nat, i = .int .i64 k ∧ k ≤ ps.length ∧ s = .int .i64 (sumW (ps.take k))) (fun _ i => ps.length - (intOf i).toNat)
  case atStart => exact ⟨0, rfl, Nat.zero_le _, rfl⟩
  case round =>
    obtain ⟨k, rfl, hk, rfl⟩ := hrel
    have hk0 : (0 : Int) ≤ (k : Int) := by omega
    by_cases hkl : k < ps.length
    · have hk1 : (k : Int) < (ps.length : Int) := by omega
      obtain ⟨b, off, rfl, hb, hc⟩ := hs.at (by omega)
      have hck := hc k hkl 0 _ rfl
      rw [Nat.mul_one, Nat.add_zero] at hck
      have hp := hw _ (List.getElem_mem hkl)
      obtain ⟨hp1, hp2⟩ := hp
      have hsn := Lib.hid (show sumW (ps.take (k + 1)) = sumW (ps.take k) + ps[k].1 by rw [List.take_succ_eq_append_getElem hkl, sumW_snoc])
      have hsl := sumW_le (hw.take k)
      rw [List.length_take] at hsl
      obtain ⟨hsl1, hsl2⟩ := hsl
      have hsl3 : sumW (ps.take k) ≤ 8000 := by omega
      clear hc hsl1 hsl2
      generalize ps[k].1 = n at *
      generalize hsk : sumW (ps.take k) = s at *
      have hsk' := Lib.hid hsk
      clear hsk
      go_wp2_with (go_at_call 174; refine (may_yes _ hp1 hp2 _).mono ?_; rintro e w' ⟨rfl, rfl⟩)
      go_round
      case rel => exact ⟨k + 1, by go_num, by omega, by rw [hsn.out]; go_num⟩
      case measure => first | (simp [intOf]; done) | (simp [intOf]; omega)
    · obtain rfl : k = ps.length := by omega
      rw [List.take_length]
      go_wp2_with fail
      go_ret
      exact ⟨rfl, rfl⟩

set_option maxHeartbeats 400000 in
theorem right_any (ao : Option Addr) (c : Nat) (ps : List (Nat × Nat)) (w : World) (hs : IntsW w ao ps) (hw : Wide ps) (hl : ps.length ≤ 1000) :
    Calls Tryz.prog 151 #[.slice ao ps.length c] w fun e w' => e = .returned (.bool true) ∧ w = w' := by
  by_cases h0 : ps.length = 0
  · have h0' : ((ps.length : Int) == 0) = true := by simpa using h0
    clear h0
    go_enter Tryz.func151, Tryz.ntmps151
    go_wp2_with fail
    go_ret
    exact ⟨rfl, rfl⟩
  · have h0' : ((ps.length : Int) == 0) = false := by simpa using h0
    have hsl := sumW_le hw
    have hp : decide (0 < sumW ps) = true := by simp; omega
    clear hsl
    go_enter Tryz.func151, Tryz.ntmps151
    go_wp2_with (go_at_call 152; refine (size_any _ _ _ _ hs hw hl).mono ?_; rintro e w' ⟨rfl, rfl⟩)
    go_ret
    exact ⟨rfl, rfl⟩

/-- The text with its length ahead; the cut of such a one. -/
def splitL (s : List UInt8) : List UInt8 × List UInt8 × Bool :=
  match s with
  | [] => ([], [], false)
  | b :: r => if r.length < b.toNat then ([], [], false) else (r.take b.toNat, r.drop b.toNat, true)
def splitV (s : List UInt8) : Value := .tuple #[.string (S (splitL s).1), .string (S (splitL s).2.1), .bool (splitL s).2.2]

set_option maxHeartbeats 1000000 in
theorem split_any (s : List UInt8) (hs : s.length ≤ 1000000) (w : World) : Calls Tryz.prog 112 #[.string (S s)] w fun e w' => e = .returned (splitV s) ∧ Below w.heap.size w w' := by
  cases s with
  | nil =>
    go_enter Tryz.func112, Tryz.ntmps112
    go_wp2_with fail
    go_ret3
    exact ⟨rfl, Below.refl _ _⟩
  | cons b r =>
    have hb : (b.toNat : Int) < 256 := by have := b.toNat_lt; omega
    have hl : (S (b :: r)).size = r.length + 1 := by rw [S_size]; rfl
    rw [List.length_cons] at hs
    by_cases h : r.length < b.toNat
    · have h' : (r.length : Int) < (b.toNat : Int) := by omega
      have hv : Hid (splitV (b :: r) = .tuple #[.string ByteArray.empty, .string ByteArray.empty, .bool false]) := Lib.hid (by simp only [splitV, splitL, if_pos h]; rfl)
      clear h
      go_enter Tryz.func112, Tryz.ntmps112
      go_wp2_with fail
      go_ret3
      exact ⟨ret_val (by rw [hv.out]; rfl), Below.refl _ _⟩
    · have h' : ¬ (r.length : Int) < (b.toNat : Int) := by omega
      have h2 : (b.toNat : Int) ≤ (r.length : Int) := by omega
      have hv : Hid (splitV (b :: r) = .tuple #[.string (S (r.take b.toNat)), .string (S (r.drop b.toNat)), .bool true]) := Lib.hid (by simp only [splitV, splitL, if_neg h])
      clear h
      go_enter Tryz.func112, Tryz.ntmps112
      go_wp2_with fail
      go_region
      go_wp2_with fail
      go_ret3
      refine ⟨ret_val ?_, by go_grown⟩
      rw [hv.out]
      show Value.tuple #[.string (S (List.take (1 + b.toNat - 1) r)), .string (S (List.take (r.length + 1 - (1 + b.toNat)) (List.drop (1 + b.toNat) (b :: r)))), .bool true] = _
      rw [Nat.add_sub_cancel_left, Nat.add_comm 1, List.drop_succ_cons, List.take_of_length_le (l := List.drop b.toNat r) (by rw [List.length_drop]; omega)]

/-- Numbers as bytes. -/
def wtext (ps : List (Nat × Nat)) : List UInt8 := ps.flatMap fun p => le p.2 p.1
theorem wtext_snoc (l : List (Nat × Nat)) (p : Nat × Nat) : wtext (l ++ [p]) = wtext l ++ le p.2 p.1 := by simp [wtext]
theorem wtext_len (l : List (Nat × Nat)) : (wtext l).length = sumW l := by
  induction l with
  | nil => rfl
  | cons p l ih => simp only [wtext, List.flatMap_cons, List.length_append, le_length, sumW] at *; rw [ih]
/-- Each has room in its width. -/
def Fit (ps : List (Nat × Nat)) : Prop := ∀ p ∈ ps, p.2 < 256 ^ p.1
theorem pow_le8 {k : Nat} (h : k ≤ 8) : 256 ^ k ≤ 18446744073709551616 := Nat.le_trans (Nat.pow_le_pow_right (by decide) h) (by decide)

set_option maxRecDepth 100000 in
set_option maxHeartbeats 2000000 in
theorem write_fit (aw an : Option Addr) (cw cn : Nat) (ps : List (Nat × Nat)) (w : World) (hsw : IntsW w aw ps) (hsn : NumsW w an ps) (hw : Wide ps) (hf : Fit ps) (hl : ps.length ≤ 1000) :
    Calls Tryz.prog 158 #[.slice aw ps.length cw, .slice an ps.length cn] w fun e w' => e = .returned (.tuple #[.string (S (wtext ps)), .bool true]) ∧ Below w.heap.size w w' := by
  obtain ⟨i0, hi, hz0, hz1, hz2⟩ := info_parts infoB
  have hsl := sumW_le hw
  have hsum : sumW ps ≤ 8000 := by omega
  clear hsl
  have hfull := Lib.hid (wtext_len ps)
  go_enter Tryz.func158, Tryz.ntmps158
  go_wp2_with (first | (go_at_call 151; refine (right_any _ _ _ _ hsw hw hl).mono ?_; rintro e w' ⟨rfl, rfl⟩) | (go_at_call 152; refine (size_any _ _ _ _ hsw hw hl).mono ?_; rintro e w' ⟨rfl, rfl⟩) | (at_make; refine wpList_make_own _ rfl _ _ 22 rfl w.heap.size 5 i0 (.int .u8 0) 1 Tryz.underlying22 hi hz0 hz1 .i64 .i64 _ (sumW ps) rfl rfl rfl (by rw [hz2]; omega) (by unfold maxLen; omega) (Nat.le_refl _) ?_; intro w1 hown1 hg1; have hB1 : Below w.heap.size w w1 := ⟨hg1.os, hg1.tape, hg1.output, hg1.size, fun k hk => hg1.block k hk (by simp)⟩))
  go_loopw [6, 25] (fun v i wr => ∃ k : Nat, i = .int .i64 k ∧ k ≤ ps.length ∧ wr.ownsRow w.heap.size 5 1 v (wtext (ps.take k)).length (bytesV (wtext (ps.take k))) ∧ Below w.heap.size w wr) (fun _ i _ => ps.length - (intOf i).toNat)
  case atStart => exact ⟨0, rfl, Nat.zero_le _, hown1, hB1⟩
  case round =>
    obtain ⟨k, rfl, hk, hown, hB⟩ := hrel
    have hk0 : (0 : Int) ≤ (k : Int) := by omega
    by_cases hkl : k < ps.length
    · have hk1 : (k : Int) < (ps.length : Int) := by omega
      obtain ⟨bw, ow, rfl, hbw, hcw⟩ := hsw.at (by omega)
      obtain ⟨bn, on, rfl, hbn, hcn⟩ := hsn.at (by omega)
      have cw0 := (hB.cell (p := ⟨bw, ow + k * 1 + 0, none⟩) hbw).trans (hcw k hkl 0 _ rfl)
      have cn0 := (hB.cell (p := ⟨bn, on + k * 1 + 0, none⟩) hbn).trans (hcn k hkl 0 _ rfl)
      rw [Nat.mul_one, Nat.add_zero] at cw0 cn0
      obtain ⟨hm1, hm8⟩ := hw _ (List.getElem_mem hkl)
      have hnf := hf _ (List.getElem_mem hkl)
      have hsnoc := Lib.hid (show wtext (ps.take (k + 1)) = wtext (ps.take k) ++ le ps[k].2 ps[k].1 by rw [List.take_succ_eq_append_getElem hkl, wtext_snoc])
      have hacc : (wtext (ps.take k)).length ≤ 8000 := by
        rw [wtext_len]
        have := sumW_le (hw.take k)
        rw [List.length_take] at this; omega
      clear hcw hcn
      generalize ps[k].1 = m at *
      generalize ps[k].2 = n at *
      generalize wtext (ps.take k) = acc at *
      have hn64 : n < 18446744073709551616 := Nat.lt_of_lt_of_le hnf (pow_le8 hm8)
      have hnf' := Lib.hid hnf
      clear hnf
      have cn0' := cn0
      go_wp2_with fail
      go_loopw [6, 9, 35] (fun v x j wi => ∃ q : Nat, j = .int .i64 q ∧ q ≤ m ∧ x = .int .u64 (n / 256 ^ q : Nat) ∧ wi.ownsRow w.heap.size 5 1 v (acc ++ le n q).length (bytesV (acc ++ le n q)) ∧ Below w.heap.size w wi) (fun _ _ j _ => m - (intOf j).toNat)
      case atStart => exact ⟨0, rfl, Nat.zero_le _, by simp, by rw [le_zero, List.append_nil]; exact hown, hB⟩
      case round =>
        obtain ⟨q, rfl, hq, rfl, hownq, hBq⟩ := hrel
        have hd : n / 256 ^ q < 18446744073709551616 := Nat.lt_of_le_of_lt (Nat.div_le_self _ _) hn64
        have hq0 : (0 : Int) ≤ (q : Int) := by omega
        have hle := le_length n q
        have hlen : (acc ++ le n q).length = acc.length + q := by rw [List.length_append, hle]
        by_cases hqm : q < m
        · have hqm' : (q : Int) < (m : Int) := by omega
          have hls := Lib.hid (le_succ n q)
          have hds := Lib.hid (div_pow_succ n q)
          generalize n / 256 ^ q = x at *
          go_wp2_with (at_builtin; refine wpList_append_own_at _ rfl _ _ 22 rfl w.heap.size 5 i0 (.int .u8 0) 1 1 Tryz.underlying22 hi hz0 hz1 hz2 rfl (by decide) _ (acc ++ le n q).length _ rfl (hownq.alloc _) ⟨wr.heap.size, 0, none⟩ 1 1 _ rfl rfl (cell_one_new _ _ _) ?h1 (by rw [hlen]; unfold maxLen; omega) (by rw [hlen]; omega) (by have := hBq.size; simp; omega) ?_; (case h1 => (intro u hu; simp at hu; subst hu; rfl)); intro v' w3 hown' hgrow hnil hat)
          go_roundw
          case rel =>
            refine ⟨q + 1, by go_num, by omega, by rw [hds.out]; simp, ?_, below_grown (hBq.alloc hBq.size _) hgrow (fun k e => (hownq.lt k e).1) (by have := hBq.size; simp; omega)⟩
            rw [hls.out, ← List.append_assoc, bytesV_append, List.length_append, List.length_singleton]
            have e : bytesV [UInt8.ofNat (x % 256)] = [.int .u8 ((x : Int) % 256)] := by simp [bytesV]
            rw [e]
            exact hown'
          case measure => first | (simp [intOf]; done) | (simp [intOf]; omega)
        · obtain rfl : q = m := by omega
          have hz : n / 256 ^ q = 0 := Nat.div_eq_of_lt hnf'.out
          generalize n / 256 ^ q = x at *
          subst hz
          go_wp2_with fail
          go_roundw
          case rel => exact ⟨k + 1, by go_num, by omega, by rw [hsnoc.out]; exact hownq, hBq⟩
          case measure => first | (simp [intOf]; done) | (simp [intOf]; omega)
    · obtain rfl : k = ps.length := by omega
      rw [List.take_length] at hown
      have hstr := own_string hown
      clear hown
      go_wp2_with fail
      go_ret2
      exact ⟨rfl, hB⟩

end Go.Proofs.YtafciefjlkdecaaGreat

namespace Go.Proofs.YtafciefjlkdecaaGreat
open Go.RowKit

theorem infoN : (Tryz.prog.info? 25).map (fun i => (i.zero, i.size, i.bytes)) = some (some (.int .u64 0), 1, 8) := by kernel_rfl
def numsV (ps : List (Nat × Nat)) : List Value := ps.map fun p => .int .u64 p.2
theorem numsV_snoc (l : List (Nat × Nat)) (p : Nat × Nat) : numsV (l ++ [p]) = numsV l ++ [.int .u64 p.2] := by simp [numsV]
theorem numsV_len (l : List (Nat × Nat)) : (numsV l).length = l.length := by simp [numsV]
/-- A row of the call's own reads as numbers. -/
theorem nums_of_own {w : World} {B : Nat} {v : Value} {ps : List (Nat × Nat)} (h : w.ownsRow B 25 1 v ps.length (numsV ps)) : ∃ ao c, v = .slice ao ps.length c ∧ NumsW w ao ps := by
  rcases ownsRow_open h with ⟨rfl, h0, -⟩ | ⟨g, cap, cur, rfl, -, hr, h3, -, h5, h6⟩
  · obtain rfl := List.eq_nil_of_length_eq_zero h0
    exact ⟨none, 0, rfl, Or.inl rfl⟩
  · refine ⟨_, cap, rfl, Or.inr ⟨g, 0, rfl, hr.lt, fun i hi j x hx => ?_⟩⟩
    have hj : j = 0 := by
      have := (List.getElem?_eq_some_iff.1 hx).1
      simpa using this
    subst hj
    have e : (numsV ps)[i]? = some (.int .u64 ps[i].2) := by simp [numsV, hi]
    rw [← h6, List.getElem?_take, if_pos (by omega)] at e
    rw [hr.cell, show 0 + i * 1 + 0 = i by omega, e]
    simpa using hx

theorem pow256 (q : Nat) : 256 ^ q = 2 ^ (8 * q) := by rw [Nat.pow_mul]
theorem or_byte (n q : Nat) (hq : q < 8) : bits .or .u64 ((n % 256 ^ q : Nat) : Int) (IntKind.u64.wrap ((n : Int) / 256 ^ q % 256 * 2 ^ (8 * q))) = ((n % 256 ^ (q + 1) : Nat) : Int) := by
  have e : (n : Int) / 256 ^ q % 256 * 2 ^ (8 * q) = ((n / 256 ^ q % 256 * 2 ^ (8 * q) : Nat) : Int) := by simp
  have h1 : n / 256 ^ q % 256 < 256 := Nat.mod_lt _ (by decide)
  have h2 : 256 * 2 ^ (8 * q) ≤ 18446744073709551616 := by
    rw [← pow256, ← Nat.pow_succ']; exact pow_le8 hq
  have hb : n / 256 ^ q % 256 * 2 ^ (8 * q) < 18446744073709551616 := Nat.lt_of_lt_of_le (Nat.mul_lt_mul_of_pos_right h1 (Nat.two_pow_pos _)) h2
  have ha : n % 256 ^ q < 2 ^ (8 * q) := by rw [← pow256]; exact Nat.mod_lt _ (Nat.pow_pos (by decide))
  have ha' : n % 256 ^ q < 18446744073709551616 := Nat.lt_of_lt_of_le ha (by rw [← pow256]; exact pow_le8 (by omega))
  have hor : n % 256 ^ q ||| n / 256 ^ q % 256 * 2 ^ (8 * q) = n % 256 ^ (q + 1) := by
    rw [Nat.or_comm, Nat.mul_comm, ← Nat.two_pow_add_eq_or_of_lt ha, Nat.pow_succ, Nat.mod_mul, ← pow256, Nat.add_comm]
  rw [e, ← hor]
  generalize n / 256 ^ q % 256 * 2 ^ (8 * q) = y at *
  generalize n % 256 ^ q = x at *
  rw [IntKind.wrap_u64, Int.emod_eq_of_lt (Int.natCast_nonneg _) (by omega), u64_or_nat _ _ ha' hb]

set_option maxRecDepth 100000 in
set_option maxHeartbeats 2000000 in
theorem read_ok (aw : Option Addr) (cw : Nat) (ps : List (Nat × Nat)) (rest : List UInt8) (w : World) (hsw : IntsW w aw ps) (hw : Wide ps) (hf : Fit ps) (hl : ps.length ≤ 1000) (hr : rest.length ≤ 1000000) :
    Calls Tryz.prog 114 #[.slice aw ps.length cw, .string (S (wtext ps ++ rest))] w fun e w' => (∃ ao c, e = .returned (.tuple #[.slice ao ps.length c, .string (S rest), .bool true]) ∧ NumsW w' ao ps) ∧ Below w.heap.size w w' := by
  obtain ⟨i0, hi, hz0, hz1, hz2⟩ := info_parts infoN
  have hsl := sumW_le hw
  have hsum : sumW ps ≤ 8000 := by omega
  clear hsl
  have hlen : (wtext ps ++ rest).length = sumW ps + rest.length := by rw [List.length_append, wtext_len]
  have hge : ¬ ((sumW ps : Int) + (rest.length : Int) < (sumW ps : Int)) := by omega
  go_enter Tryz.func114, Tryz.ntmps114
  go_wp2_with (first | (go_at_call 151; refine (right_any _ _ _ _ hsw hw hl).mono ?_; rintro e w' ⟨rfl, rfl⟩) | (go_at_call 152; refine (size_any _ _ _ _ hsw hw hl).mono ?_; rintro e w' ⟨rfl, rfl⟩))
  clear hlen hge
  go_loopw [1, 7, 24] (fun s v i wr => ∃ k : Nat, i = .int .i64 k ∧ k ≤ ps.length ∧ s = .string (S (wtext (ps.drop k) ++ rest)) ∧ wr.ownsRow w.heap.size 25 1 v (ps.take k).length (numsV (ps.take k)) ∧ Below w.heap.size w wr) (fun _ _ i _ => ps.length - (intOf i).toNat)
  case atStart => exact ⟨0, rfl, Nat.zero_le _, rfl, World.ownsRow_nil _ _ _ _, Below.refl _ _⟩
  case round =>
    obtain ⟨k, rfl, hk, rfl, hown, hB⟩ := hrel
    have hk0 : (0 : Int) ≤ (k : Int) := by omega
    have hlt : (ps.take k).length = k := by rw [List.length_take]; omega
    by_cases hkl : k < ps.length
    · have hk1 : (k : Int) < (ps.length : Int) := by omega
      obtain ⟨bw, ow, rfl, hbw, hcw⟩ := hsw.at (by omega)
      have cw0 := (hB.cell (p := ⟨bw, ow + k * 1 + 0, none⟩) hbw).trans (hcw k hkl 0 _ rfl)
      rw [Nat.mul_one, Nat.add_zero] at cw0
      obtain ⟨hm1, hm8⟩ := hw _ (List.getElem_mem hkl)
      have hnf := hf _ (List.getElem_mem hkl)
      have hsnoc := Lib.hid (show numsV (ps.take (k + 1)) = numsV (ps.take k) ++ [.int .u64 ps[k].2] by rw [List.take_succ_eq_append_getElem hkl, numsV_snoc])
      have hdrop : wtext (ps.drop k) ++ rest = le ps[k].2 ps[k].1 ++ (wtext (ps.drop (k + 1)) ++ rest) := by
        rw [List.drop_eq_getElem_cons hkl, ← List.append_assoc]; rfl
      rw [hdrop]
      have htl : (wtext (ps.drop (k + 1)) ++ rest).length ≤ 1008000 := by
        rw [List.length_append, wtext_len]
        have := sumW_le (l := ps.drop (k + 1)) (fun p hp => hw p (List.mem_of_mem_drop hp))
        rw [List.length_drop] at this; omega
      clear hcw hdrop
      generalize ps[k].1 = m at *
      generalize ps[k].2 = n at *
      generalize htle : wtext (ps.drop (k + 1)) ++ rest = tl at *
      have htle' := Lib.hid htle
      have hn64 : n < 18446744073709551616 := Nat.lt_of_lt_of_le hnf (pow_le8 hm8)
      have hnf' := Lib.hid hnf
      have hle := le_length n m
      clear hnf htle
      have hsz : (le n m ++ tl).length = m + tl.length := by rw [List.length_append, hle]
      go_wp2_with fail
      go_loop [10, 29] (fun x j => ∃ q : Nat, j = .int .i64 q ∧ q ≤ m ∧ x = .int .u64 (n % 256 ^ q : Nat)) (fun _ j => m - (intOf j).toNat)
      case atStart => exact ⟨0, rfl, Nat.zero_le _, by simp [Nat.mod_one]⟩
      case round =>
        obtain ⟨q, rfl, hq, rfl⟩ := hrel
        have hq0 : (0 : Int) ≤ (q : Int) := by omega
        by_cases hqm : q < m
        · have hqm' : (q : Int) < (m : Int) := by omega
          have hq8 : q < 8 := by omega
          have hqs : (q : Int) < (m : Int) + (tl.length : Int) := by omega
          have hxl : n % 256 ^ q < 256 ^ q := Nat.mod_lt _ (Nat.pow_pos (by decide))
          have hbyte : (le n m ++ tl)[q]'(by omega) = UInt8.ofNat (n / 256 ^ q % 256) := by rw [List.getElem_append_left (by omega)]; simp [le]
          have hob := Lib.hid (or_byte n q hq8)
          generalize n % 256 ^ q = x at *
          go_wp2_with fail
          go_round
          case rel => exact ⟨q + 1, by go_num, by omega, by rw [hob.out]⟩
          case measure => first | (simp [intOf]; done) | (simp [intOf]; omega)
        · obtain rfl : q = m := by omega
          have hmod : n % 256 ^ q = n := Nat.mod_eq_of_lt hnf'.out
          rw [hmod]
          have hq1 : (q : Int) ≤ (q : Int) + (tl.length : Int) := by omega
          have hcut : Hid ((le n q ++ tl).drop q = tl) := Lib.hid (by rw [List.drop_append_of_le_length (by omega), List.drop_of_length_le (by omega), List.nil_append])
          clear hmod
          go_wp2_with fail
          rw [hlt] at hown
          obtain ⟨ao', c', e'⟩ := own_form hown
          subst e'
          go_region_law (refine step_append_own rfl _ _ 212 rfl w.heap.size 25 i0 (.int .u64 0) 1 8 Tryz.underlying212 hi hz0 hz1 hz2 rfl (by decide) (.slice ao' k c') k _ (by simp [Act.eval]) ((hown.alloc (.cells #[.int .u64 n] 25)).drew) ⟨wr.heap.size, 0, none⟩ 1 1 [.int .u64 n] (by simp [Act.eval]) rfl (cell_one_new _ _ _) (by intro u hu; simp at hu; subst hu; rfl) (by unfold maxLen; omega) (by omega) (by have := hB.size; simp; omega) ?_; intro v' w3 hown3 hg3 hat3)
          go_wp2_with fail
          go_roundw
          case rel =>
            refine ⟨k + 1, by go_num, by omega, ?_, ?_, ?_⟩
            · rw [htle'.out]
            · rw [hsnoc.out, List.length_take, Nat.min_eq_left (by omega)]
              exact hown3
            · exact below_grown (below_drew' (hB.alloc hB.size _)) hg3 (fun k e => (hown.lt k e).1) (by have := hB.size; simp; omega)
          case measure => first | (simp [intOf]; done) | (simp [intOf]; omega)
    · obtain rfl : k = ps.length := by omega
      rw [List.take_length] at hown
      obtain ⟨ao, c, rfl, hN⟩ := nums_of_own hown
      rw [List.drop_length]
      clear hown
      go_wp2_with fail
      go_ret3
      exact ⟨⟨ao, c, rfl, hN⟩, hB⟩

set_option maxHeartbeats 1000000 in
theorem read_short (aw : Option Addr) (cw : Nat) (ps : List (Nat × Nat)) (s : List UInt8) (w : World) (hsw : IntsW w aw ps) (hw : Wide ps) (hl : ps.length ≤ 1000) (hs : s.length < sumW ps) :
    Calls Tryz.prog 114 #[.slice aw ps.length cw, .string (S s)] w fun e w' => e = .returned (.tuple #[.slice none 0 0, .string (S []), .bool false]) ∧ w = w' := by
  have hlt : (s.length : Int) < (sumW ps : Int) := by omega
  go_enter Tryz.func114, Tryz.ntmps114
  go_wp2_with (first | (go_at_call 151; refine (right_any _ _ _ _ hsw hw hl).mono ?_; rintro e w' ⟨rfl, rfl⟩) | (go_at_call 152; refine (size_any _ _ _ _ hsw hw hl).mono ?_; rintro e w' ⟨rfl, rfl⟩))
  go_ret3
  exact ⟨rfl, rfl⟩

/-- The number of some bytes, the least significant ones first. -/
def numL : List UInt8 → Nat
  | [] => 0
  | b :: r => b.toNat + 256 * numL r
theorem numL_lt : ∀ l : List UInt8, numL l < 256 ^ l.length
  | [] => by simp [numL]
  | b :: r => by
    have h1 := numL_lt r
    have h2 := b.toNat_lt
    simp only [numL, List.length_cons, Nat.pow_succ]; omega
theorem le_cons (n k : Nat) : le n (k + 1) = UInt8.ofNat (n % 256) :: le (n / 256) k := by
  simp only [le, List.range_succ_eq_map, List.map_cons, List.map_map, Nat.pow_zero, Nat.div_one]
  congr 1
  refine List.map_congr_left fun i _ => ?_
  simp only [Function.comp, Nat.succ_eq_add_one]
  rw [Nat.pow_succ', ← Nat.div_div_eq_div_mul]
theorem le_numL : ∀ l : List UInt8, le (numL l) l.length = l
  | [] => rfl
  | b :: r => by
    have h2 := b.toNat_lt
    have e1 : (b.toNat + 256 * numL r) % 256 = b.toNat := by omega
    have e2 : (b.toNat + 256 * numL r) / 256 = numL r := by omega
    rw [List.length_cons, le_cons, numL, e1, e2, le_numL r]
    simp
theorem numL_le : ∀ (k n : Nat), numL (le n k) = n % 256 ^ k
  | 0, n => by simp [le, numL, Nat.mod_one]
  | k + 1, n => by
    rw [le_cons, numL, numL_le k, Nat.pow_succ', Nat.mod_mul]
    simp
/-- A text with enough bytes is numbers of some widths, and what is left. -/
theorem as_nums : ∀ (ws : List Nat) (s : List UInt8), ws.sum ≤ s.length → ∃ (ps : List (Nat × Nat)) (rest : List UInt8), ps.map Prod.fst = ws ∧ Fit ps ∧ s = wtext ps ++ rest
  | [], s, _ => ⟨[], s, rfl, fun p hp => by simp at hp, rfl⟩
  | m :: ws, s, h => by
    rw [List.sum_cons] at h
    obtain ⟨ps, rest, h1, h2, h3⟩ := as_nums ws (s.drop m) (by rw [List.length_drop]; omega)
    have hl : (s.take m).length = m := by rw [List.length_take]; omega
    refine ⟨(m, numL (s.take m)) :: ps, rest, by simp [h1], fun p hp => ?_, ?_⟩
    · rcases List.mem_cons.1 hp with rfl | hp
      · have := numL_lt (s.take m)
        rwa [hl] at this
      · exact h2 p hp
    · have e := le_numL (s.take m)
      rw [hl] at e
      show s = (le (numL (s.take m)) m ++ wtext ps) ++ rest
      rw [e, List.append_assoc, ← h3, List.take_append_drop]
theorem intsW_new (w : World) (c : Array Value) (e : TypeId) (fz : Nat × Nat) (ps : List (Nat × Nat)) (hc : c.toList = ps.map fun p => .int .i64 p.1) : IntsW (w.alloc (.cells c e fz)) (some ⟨w.heap.size, 0, none⟩) ps :=
  SlAt.new w c e fz ps (fun _ _ => rfl) (by rw [hc, List.map_eq_flatMap])
theorem numsW_new (w : World) (c : Array Value) (e : TypeId) (fz : Nat × Nat) (ps : List (Nat × Nat)) (hc : c.toList = ps.map fun p => .int .u64 p.2) : NumsW (w.alloc (.cells c e fz)) (some ⟨w.heap.size, 0, none⟩) ps :=
  SlAt.new w c e fz ps (fun _ _ => rfl) (by rw [hc, List.map_eq_flatMap])

theorem wide1 (m n : Nat) (h1 : 1 ≤ m) (h2 : m ≤ 8) : Wide [(m, n)] := by
  intro p hp
  simp only [List.mem_singleton] at hp
  subst hp
  exact ⟨h1, h2⟩
theorem as_num1 (m : Nat) (s : List UInt8) (h : m ≤ s.length) : ∃ (n : Nat) (rest : List UInt8), Fit [(m, n)] ∧ s = wtext [(m, n)] ++ rest := by
  have hl : (s.take m).length = m := by rw [List.length_take]; omega
  refine ⟨numL (s.take m), s.drop m, fun p hp => ?_, ?_⟩
  · simp only [List.mem_singleton] at hp
    subst hp
    have := numL_lt (s.take m)
    rwa [hl] at this
  · have e := le_numL (s.take m)
    rw [hl] at e
    simp only [wtext, List.flatMap_cons, List.flatMap_nil, List.append_nil]
    rw [e, List.take_append_drop]

end Go.Proofs.YtafciefjlkdecaaGreat

namespace Go.Proofs.YtafciefjlkdecaaGreat
open Go.RowKit

/-- What an update makes of a value that is there, or isn't. -/
def onL (v : List UInt8) (there : Bool) (u : Upd) : List UInt8 × Bool :=
  if u.kind = 1 then (u.val, true)
  else if u.kind = 2 then ([], false)
  else if u.kind = 3 then
    if there = false then (le (u.delta % 18446744073709551616) 8, true)
    else if v.length = 8 then (le ((numL v + u.delta) % 18446744073709551616) 8, true) else (v, true)
  else (if there then v else [], there)
def onV (v : List UInt8) (there : Bool) (u : Upd) : Value := .tuple #[.string (S (onL v there u).1), .bool (onL v there u).2]
/-- The update that does what two do, one behind the other. -/
def joinL (f t : Upd) : Upd :=
  if t.kind ≠ 3 then t
  else if f.kind = 3 then { t with delta := (t.delta + f.delta) % 18446744073709551616 }
  else ⟨1, t.key, (onL (onL [] false f).1 (onL [] false f).2 t).1, 0⟩

theorem numL_64 {v : List UInt8} (h : v.length = 8) : numL v < 18446744073709551616 := by
  have := numL_lt v
  rw [h] at this
  exact this

set_option maxRecDepth 100000 in
set_option maxHeartbeats 1000000 in
theorem number_any (v : List UInt8) (hv : v.length ≤ 1000000) (w : World) :
    Calls Tryz.prog 121 #[.string (S v)] w fun e w' => e = .returned (.tuple #[.int .u64 (if v.length = 8 then numL v else 0 : Nat), .bool (decide (v.length = 8))]) ∧ Below w.heap.size w w' := by
  by_cases hlt : v.length < 8
  · have hd : decide (v.length = 8) = false := by simp; omega
    rw [if_neg (by omega), hd]
    clear hd
    have hI := intsW_new w #[.int .i64 8] 3 (0, 0) [(8, 0)] rfl
    have hr := read_short _ 1 [(8, 0)] v _ hI (wide1 8 0 (by omega) (by omega)) (by simp) (by simpa [sumW] using hlt)
    go_enter Tryz.func121, Tryz.ntmps121
    go_wp2_with (go_at_call 114; refine (hr).mono ?_; rintro e w' ⟨rfl, rfl⟩)
    go_ret2
    exact ⟨rfl, by go_grown⟩
  · obtain ⟨n, rest, h2, h3⟩ := as_num1 8 v (by omega)
    have hn : n < 256 ^ 8 := h2 (8, n) (by simp)
    have hn8 : n < 18446744073709551616 := hn
    have hlen : v.length = 8 + rest.length := by rw [h3, List.length_append, wtext_len]; rfl
    have hI := intsW_new w #[.int .i64 8] 3 (0, 0) [(8, n)] rfl
    have hr := read_ok _ 1 [(8, n)] rest _ hI (wide1 8 n (by omega) (by omega)) h2 (by simp) (by omega)
    rw [← h3] at hr
    by_cases h8 : v.length = 8
    · obtain rfl : rest = [] := List.eq_nil_of_length_eq_zero (by omega)
      have hnum : numL v = n := by
        rw [h3, List.append_nil]
        show numL (le n 8 ++ []) = n
        rw [List.append_nil, numL_le]
        exact Nat.mod_eq_of_lt hn
      rw [if_pos h8, decide_eq_true h8, hnum]
      clear hnum h8 hlen h3 h2
      go_enter Tryz.func121, Tryz.ntmps121
      go_wp2_with (go_at_call 114; refine (thread hr w.heap.size w (by go_grown) (by go_grown)).mono ?_; rintro e w1 ⟨⟨ao, c, rfl, hN⟩, hB, -, -, -, -⟩; obtain ⟨b, off, rfl, hb, hc⟩ := hN.at (by simp); have hc0 := hc 0 (by simp) 0 _ rfl; simp only [Nat.mul_one, Nat.add_zero, List.getElem_cons_zero] at hc0; clear hc hN)
      go_ret2
      exact ⟨rfl, hB⟩
    · have hne : 0 < rest.length := by omega
      rw [if_neg h8, decide_eq_false h8]
      have hre : (S rest).toList.isEmpty = false := by rw [S_toList]; cases rest <;> simp at hne ⊢
      have hre2 : rest.isEmpty = false := by rw [S_toList] at hre; exact hre
      clear h8 hlen h3 h2
      go_enter Tryz.func121, Tryz.ntmps121
      go_wp2_with (go_at_call 114; refine (thread hr w.heap.size w (by go_grown) (by go_grown)).mono ?_; rintro e w1 ⟨⟨ao, c, rfl, hN⟩, hB, -, -, -, -⟩)
      go_ret2
      exact ⟨rfl, hB⟩

set_option maxRecDepth 100000 in
set_option maxHeartbeats 400000 in
theorem value_any (n : Nat) (hn : n < 18446744073709551616) (w : World) :
    Calls Tryz.prog 122 #[.int .u64 n] w fun e w' => e = .returned (.string (S (le n 8))) ∧ Below w.heap.size w w' := by
  have hI := (intsW_new w #[.int .i64 8] 3 (0, 0) [(8, n)] rfl).kept ((Below.refl _ _).alloc (Nat.le_refl _) (.cells #[.int .u64 n] 25)) (Nat.le_refl _)
  have hN := numsW_new (w.alloc (.cells #[.int .i64 8] 3)) #[.int .u64 n] 25 (0, 0) [(8, n)] rfl
  have hr := write_fit _ _ 1 1 [(8, n)] _ hI hN (wide1 8 n (by omega) (by omega)) (by intro p hp; simp at hp; subst hp; exact hn) (by simp)
  have hw : Hid (wtext [(8, n)] = le n 8) := Lib.hid (by simp [wtext])
  rw [show (w.alloc (.cells #[.int .i64 8] 3)).heap.size = w.heap.size + 1 by simp] at hr
  go_enter Tryz.func122, Tryz.ntmps122
  go_wp2_with (go_at_call 158; refine (thread hr w.heap.size w (by go_grown) (by go_grown)).mono ?_; rintro e w1 ⟨rfl, hB, -, -, -, -⟩)
  go_ret
  exact ⟨ret_val (by rw [← hw.out]; rfl), hB⟩

end Go.Proofs.YtafciefjlkdecaaGreat
