/-
  The walks of slices.Grow of nil, and slices.Concat of two, at updates.
-/
import Derived.Test.YtcjeonamebnpfaaUse
import Derived.Laws.AppendOwnNone
import Derived.Lib.Walk
namespace Go.Proofs.Ytcjeonamebnpfaa
open Go.RowKit

/-- 'append(s, x...)' of a row of the call's own, the source nil or not. -/
theorem wpList_append_src {P : Program} (w : World) {ops : Array Oper} {rest : List Oper} {o : Oper} {a : Act} {Q : Exit → Act → World → Prop} (hgd : o.guard = none) (s x : Operand) (t : TypeId)
    (ho : o.op = .call { callee := .builtin .append, args := #[s, x], argTypes := #[t, t] })
    (base : Nat) (e : TypeId) (i : TypeInfo) (z : Value) (size bytes : Nat) (ht : P.underlying t = some (.slice e)) (hi : P.info? e = some i) (hz : i.zero = some z)
    (hsize : i.size = size) (hby : i.bytes = bytes) (hzs : z.cells.size = size) (hsz : 0 < size)
    (v : Value) (n : Nat) (xs : List Value) (hs : a.eval s = v) (hown : w.ownsRow base e size v n xs)
    (ao : Option Addr) (m c : Nat) (news : List Value) (hx : a.eval x = .slice ao m c) (hl : news.length = m * size) (hnone : ao = none → m = 0 ∧ c = 0) (hnews : ∀ ad, ao = some ad → ∀ j u, news[j]? = some u → w.cell? (ad.add j) = some u) (h1 : ∀ u ∈ news, u.oneCell' = true)
    (h63 : n + m ≤ maxLen) (hbytes : (n + m) * bytes ≤ 140737488355328) (hbase : base ≤ w.heap.size)
    (h : ∀ v' w', w'.ownsRow base e size v' (n + m) (xs ++ news) → w.grownBy w' v.ownBlock → (v'.ownBlock = v.ownBlock ∨ v'.ownBlock = some w.heap.size) → wpList P ops Q rest (a.put o.dst v') w') :
    wpList P ops Q (o :: rest) a w := by
  cases ao with
  | none =>
    obtain ⟨rfl, rfl⟩ := hnone rfl
    obtain rfl : news = [] := List.eq_nil_of_length_eq_zero (by omega)
    refine wpList_append_own_none hgd s x t ho base e i size ht hi v n xs hs hown hx (h v w ?_ ⟨rfl, rfl, rfl, Nat.le_refl _, fun _ _ _ => rfl⟩ (Or.inl rfl))
    simpa using hown
  | some ad => exact wpList_append_own_at w hgd s x t ho base e i z size bytes ht hi hz hsize hby hzs hsz v n xs hs hown ad m c news hx hl (hnews ad rfl) h1 h63 hbytes hbase (fun v' w' a b _ d => h v' w' a b d)

set_option maxRecDepth 100000 in
set_option maxHeartbeats 1000000 in
theorem grow_nil (n : Nat) (hn : n ≤ 200000) (w : World) :
    Calls Try.prog 75 #[.slice none 0 0, .int .i64 n] w fun e w' => (∃ v', e = .returned v' ∧ w'.ownsRow w.heap.size 31 4 v' 0 []) ∧ Below w.heap.size w w' := by
  obtain ⟨i0, hi, hz0, hz1, hz2⟩ := info_parts infoU
  by_cases h0 : n = 0
  · subst h0
    go_enter Try.func75, Try.ntmps75
    go_wp2_with fail
    go_ret
    exact ⟨⟨_, rfl, World.ownsRow_nil _ _ _ _⟩, Below.refl _ _⟩
  · have hn0 : (0 : Int) < (n : Int) := by omega
    have hr := fun ty => Lib.run_append_nil_zeros (P := Try.prog) w 24 3 ty 31 i0 _ .i64 .i64 Try.underlying24 Try.underlying3 hi hz0 n (by omega) (by omega) (by omega) (by rw [hz2]; omega)
    have hG := grownCap_ge w n 0 31
    have hGm := grownCap_le_maxLen w n 0 31 (by unfold maxLen; omega)
    generalize grownCap w n 0 31 = G at *
    have hzl : (Builtin.zeroCells (Value.agg #[.int .u8 0, .string ByteArray.empty, .string ByteArray.empty, .int .u64 0]).cells n ++ Builtin.zeroCells (Value.agg #[.int .u8 0, .string ByteArray.empty, .string ByteArray.empty, .int .u64 0]).cells (G - n)).size = G * 4 := by
      rw [Array.size_append, zeroCells_len, zeroCells_len]
      show n * 4 + (G - n) * 4 = _
      omega
    generalize hZ : Builtin.zeroCells (Value.agg #[.int .u8 0, .string ByteArray.empty, .string ByteArray.empty, .int .u64 0]).cells n ++ Builtin.zeroCells (Value.agg #[.int .u8 0, .string ByteArray.empty, .string ByteArray.empty, .int .u64 0]).cells (G - n) = Z at *
    have hown := World.ownsRow_made (e := 31) (size := 4) (base := w.heap.size) w.drew Z G (Nat.le_refl _) hGm hzl
    have hown' := Lib.hid hown
    unfold maxLen at hGm
    clear hZ hzl hown
    go_enter Try.func75, Try.ntmps75
    go_wp2_with (at_builtin; refine Lib.wpList_append_run _ rfl _ _ _ _ rfl _ _ rfl rfl _ _ (hr _) ?_)
    go_ret
    exact ⟨⟨_, rfl, hown'.out⟩, (below_drew' (Below.refl _ _)).alloc (Nat.le_refl _) _⟩

theorem src_cells {w : World} {ao : Option Addr} {l : List Upd} (hs : SlAt Upd.cells 4 w ao l) : ∀ ad, ao = some ad → ∀ j u, (cellsU l)[j]? = some u → w.cell? (ad.add j) = some u := by
  intro ad e j u hu
  have hj := (List.getElem?_eq_some_iff.1 hu).1
  rw [cellsU_len] at hj
  obtain ⟨b, off, e', hb, hc⟩ := hs.at (by omega)
  obtain rfl : ad = ⟨b, off, none⟩ := by rw [e] at e'; simpa using e'
  rw [show (⟨b, off, none⟩ : Addr).add j = ⟨b, off + j, none⟩ by simp [Addr.add]]
  exact SlAt.cellsU hc j u hu

set_option maxRecDepth 100000 in
set_option maxHeartbeats 2000000 in
theorem concat_two (cb : Nat) (a1 a2 : Option Addr) (c1 c2 : Nat) (l1 l2 : List Upd) (w : World) (hcb : cb < w.heap.size) (h1 : w.cell? ⟨cb, 0, none⟩ = some (.slice a1 l1.length c1)) (h2 : w.cell? ⟨cb, 1, none⟩ = some (.slice a2 l2.length c2))
    (s1 : SlAt Upd.cells 4 w a1 l1) (s2 : SlAt Upd.cells 4 w a2 l2) (n1 : a1 = none → l1.length = 0 ∧ c1 = 0) (n2 : a2 = none → l2.length = 0 ∧ c2 = 0) (hl1 : l1.length ≤ 100000) (hl2 : l2.length ≤ 100000) :
    Calls Try.prog 50 #[.slice (some ⟨cb, 0, none⟩) 2 2] w fun e w' => (∃ v', e = .returned v' ∧ w'.ownsRow w.heap.size 31 4 v' (l1 ++ l2).length (cellsU (l1 ++ l2))) ∧ Below w.heap.size w w' := by
  obtain ⟨i0, hi, hz0, hz1, hz2⟩ := info_parts infoU
  have hN1 := Lib.hid n1
  have hN2 := Lib.hid n2
  clear n1 n2
  go_enter Try.func50, Try.ntmps50
  go_wp2_with fail
  go_loop [3, 11] (fun s i => (i = .int .i64 (0 : Nat) ∧ s = .int .i64 (0 : Nat)) ∨ (i = .int .i64 (1 : Nat) ∧ s = .int .i64 l1.length) ∨ (i = .int .i64 (2 : Nat) ∧ s = .int .i64 (l1.length + l2.length : Nat))) (fun _ i => 2 - (intOf i).toNat)
  case atStart => exact Or.inl ⟨rfl, rfl⟩
  case round =>
    rcases hrel with ⟨rfl, rfl⟩ | ⟨rfl, rfl⟩ | ⟨rfl, rfl⟩
    · have hp : ¬ (l1.length : Int) < 0 := by omega
      go_wp2_with fail
      go_round
      case rel => exact Or.inr (Or.inl ⟨by go_num, by go_num⟩)
      case measure => first | (simp [intOf]; done) | (simp [intOf]; omega)
    · have hp : ¬ (l1.length : Int) + (l2.length : Int) < 0 := by omega
      go_wp2_with fail
      go_round
      case rel => exact Or.inr (Or.inr ⟨by go_num, by go_num⟩)
      case measure => first | (simp [intOf]; done) | (simp [intOf]; omega)
    · go_wp2_with fail
      refine (grow_nil (l1.length + l2.length) (by omega) w).mono ?_
      rintro e w1 ⟨⟨v1, rfl, hown1⟩, hB1⟩
      go_wp2_with fail
      go_loopw [6, 27] (fun v i wr => ((i = .int .i64 (0 : Nat) ∧ wr.ownsRow w.heap.size 31 4 v 0 []) ∨ (i = .int .i64 (1 : Nat) ∧ wr.ownsRow w.heap.size 31 4 v l1.length (cellsU l1)) ∨ (i = .int .i64 (2 : Nat) ∧ wr.ownsRow w.heap.size 31 4 v (l1 ++ l2).length (cellsU (l1 ++ l2)))) ∧ Below w.heap.size w wr) (fun _ i _ => 2 - (intOf i).toNat)
      case atStart => exact ⟨Or.inl ⟨rfl, hown1⟩, hB1⟩
      case round =>
        obtain ⟨hrel, hB⟩ := hrel
        have k1 := (hB.cell (p := ⟨cb, 0, none⟩) hcb).trans h1
        have k2 := (hB.cell (p := ⟨cb, 1, none⟩) hcb).trans h2
        rcases hrel with ⟨rfl, hown⟩ | ⟨rfl, hown⟩ | ⟨rfl, hown⟩
        · go_wp2_with (at_builtin; refine wpList_append_src _ rfl _ _ 24 rfl w.heap.size 31 i0 (.agg #[.int .u8 0, .string ByteArray.empty, .string ByteArray.empty, .int .u64 0]) 4 48 Try.underlying24 hi hz0 hz1 hz2 rfl (by decide) _ 0 _ rfl hown a1 l1.length c1 (cellsU l1) rfl (cellsU_len _) hN1.out (src_cells (s1.kept hB (Nat.le_refl _))) (cellsU_oneCell _) (by unfold maxLen; omega) (by omega) hB.size ?_; intro v' w2 hown' hgrow hat)
          go_roundw
          case rel => exact ⟨Or.inr (Or.inl ⟨by go_num, by rw [Nat.zero_add, List.nil_append] at hown'; exact hown'⟩), below_grown hB hgrow (fun k e => (hown.lt k e).1) hB.size⟩
          case measure => first | (simp [intOf]; done) | (simp [intOf]; omega)
        · go_wp2_with (at_builtin; refine wpList_append_src _ rfl _ _ 24 rfl w.heap.size 31 i0 (.agg #[.int .u8 0, .string ByteArray.empty, .string ByteArray.empty, .int .u64 0]) 4 48 Try.underlying24 hi hz0 hz1 hz2 rfl (by decide) _ l1.length _ rfl hown a2 l2.length c2 (cellsU l2) rfl (cellsU_len _) hN2.out (src_cells (s2.kept hB (Nat.le_refl _))) (cellsU_oneCell _) (by unfold maxLen; omega) (by omega) hB.size ?_; intro v' w2 hown' hgrow hat)
          go_roundw
          case rel => exact ⟨Or.inr (Or.inr ⟨by go_num, by rw [List.length_append, cellsU_append]; exact hown'⟩), below_grown hB hgrow (fun k e => (hown.lt k e).1) hB.size⟩
          case measure => first | (simp [intOf]; done) | (simp [intOf]; omega)
        · go_wp2_with fail
          go_ret
          exact ⟨⟨_, rfl, hown⟩, hB⟩

end Go.Proofs.Ytcjeonamebnpfaa
