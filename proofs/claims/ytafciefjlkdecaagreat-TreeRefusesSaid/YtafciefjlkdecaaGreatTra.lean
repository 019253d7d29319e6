/-
  A tree's blocks: rows whose cells are written; a vertex, a tree; New, Open, small.
-/
import Derived.Test.YtafciefjlkdecaaGreatZa
import Derived.Deep.Cut
namespace Go.Proofs.YtafciefjlkdecaaGreat
open Go.RowKit

theorem RowIs.new' (w : World) (E : TypeId) (cur : List Value) (b : Nat) (hb : b = w.heap.size) : RowIs (w.alloc (.cells cur.toArray E)) E b cur := by subst hb; exact RowIs.new w E cur
theorem RowIs.on {w w' : World} {E : TypeId} {g : Nat} {cur : List Value} (h : RowIs w E g cur) (hb : Below w.heap.size w w') : RowIs w' E g cur := (hb.block g h.lt).trans h
theorem RowIs.below {w w' : World} {E : TypeId} {g N : Nat} {cur : List Value} (h : RowIs w E g cur) (hb : Below N w w') (hN : g < N) : RowIs w' E g cur := (hb.block g hN).trans h
theorem RowIs.put {w : World} {E : TypeId} {g : Nat} {cur : List Value} (h : RowIs w E g cur) (i : Nat) (v : Value) : RowIs (w.setCell ⟨g, i, none⟩ v) E g (cur.set i v) := by
  have := Go.heap_setCell_same w g i cur.toArray E v h
  unfold RowIs
  rw [this]
  simp
theorem RowIs.far {w : World} {E : TypeId} {g : Nat} {cur : List Value} (h : RowIs w E g cur) (a : Addr) (hne : g ≠ a.block) (v : Value) : RowIs (w.setCell a v) E g cur :=
  (Go.heap_setCell_other w a g v hne).trans h
theorem RowIs.kept' {w w' : World} {E : TypeId} {g B : Nat} {cur : List Value} (h : RowIs w E g cur) (hb : Below B w w') (hB : w.heap.size ≤ B) : RowIs w' E g cur := h.on (hb.mono hB)

/-- The cells of a vertex. -/
def vxCells (kn : Bool) (pa : Int) (pg ps : Nat) (ld : Bool) (lf cs us ks : Value) : List Value := [.bool kn, .int .i64 pa, .int .u64 pg, .int .u32 ps, .bool ld, lf, cs, us, ks]
/-- The cells of a tree. -/
def trCells (F B L : Int) (ld : Value) (root : Nat) (h : Int) (gone : Value) (fl le : Int) : List Value := [.int .i64 F, .int .i64 B, .int .i64 L, ld, .pointer (some ⟨root, 0, none⟩), .int .i64 h, gone, .int .i64 fl, .int .i64 le]
structure VxAt (w : World) (b : Nat) (kn : Bool) (pa : Int) (pg ps : Nat) (ld : Bool) (lf cs us ks : Value) : Prop where
  row : RowIs w 108 b (vxCells kn pa pg ps ld lf cs us ks)
structure TrAt (w : World) (b : Nat) (F B L : Int) (ld : Value) (root : Nat) (h : Int) (gone : Value) (fl le : Int) : Prop where
  row : RowIs w 110 b (trCells F B L ld root h gone fl le)
section
variable {w w' : World} {b : Nat} {kn : Bool} {pa : Int} {pg ps : Nat} {ld : Bool} {lf cs us ks : Value}
theorem VxAt.on (h : VxAt w b kn pa pg ps ld lf cs us ks) (hb : Below w.heap.size w w') : VxAt w' b kn pa pg ps ld lf cs us ks := ⟨h.row.on hb⟩
theorem VxAt.kept {B : Nat} (h : VxAt w b kn pa pg ps ld lf cs us ks) (hb : Below B w w') (hB : w.heap.size ≤ B) : VxAt w' b kn pa pg ps ld lf cs us ks := ⟨h.row.on (hb.mono hB)⟩
theorem VxAt.lt (h : VxAt w b kn pa pg ps ld lf cs us ks) : b < w.heap.size := h.row.lt
theorem VxAt.c0 (h : VxAt w b kn pa pg ps ld lf cs us ks) : w.cell? ⟨b, 0, none⟩ = some (.bool kn) := h.row.cell 0
theorem VxAt.c1 (h : VxAt w b kn pa pg ps ld lf cs us ks) : w.cell? ⟨b, 1, none⟩ = some (.int .i64 pa) := h.row.cell 1
theorem VxAt.c2 (h : VxAt w b kn pa pg ps ld lf cs us ks) : w.cell? ⟨b, 2, none⟩ = some (.int .u64 pg) := h.row.cell 2
theorem VxAt.c3 (h : VxAt w b kn pa pg ps ld lf cs us ks) : w.cell? ⟨b, 3, none⟩ = some (.int .u32 ps) := h.row.cell 3
theorem VxAt.c4 (h : VxAt w b kn pa pg ps ld lf cs us ks) : w.cell? ⟨b, 4, none⟩ = some (.bool ld) := h.row.cell 4
theorem VxAt.c5 (h : VxAt w b kn pa pg ps ld lf cs us ks) : w.cell? ⟨b, 5, none⟩ = some lf := h.row.cell 5
theorem VxAt.c6 (h : VxAt w b kn pa pg ps ld lf cs us ks) : w.cell? ⟨b, 6, none⟩ = some cs := h.row.cell 6
theorem VxAt.c7 (h : VxAt w b kn pa pg ps ld lf cs us ks) : w.cell? ⟨b, 7, none⟩ = some us := h.row.cell 7
theorem VxAt.c8 (h : VxAt w b kn pa pg ps ld lf cs us ks) : w.cell? ⟨b, 8, none⟩ = some ks := h.row.cell 8
theorem VxAt.fz (h : VxAt w b kn pa pg ps ld lf cs us ks) (o : Nat) : w.frozen? ⟨b, o, none⟩ = false := h.row.frozen o
theorem VxAt.far (h : VxAt w b kn pa pg ps ld lf cs us ks) (a : Addr) (hne : b ≠ a.block) (v : Value) : VxAt (w.setCell a v) b kn pa pg ps ld lf cs us ks := ⟨h.row.far a hne v⟩
theorem VxAt.putL (h : VxAt w b kn pa pg ps ld lf cs us ks) (v : Value) : VxAt (w.setCell ⟨b, 5, none⟩ v) b kn pa pg ps ld v cs us ks := ⟨h.row.put 5 v⟩
end
section
variable {w w' : World} {b : Nat} {F B L : Int} {ld : Value} {root : Nat} {h' : Int} {gone : Value} {fl le : Int}
theorem TrAt.on (h : TrAt w b F B L ld root h' gone fl le) (hb : Below w.heap.size w w') : TrAt w' b F B L ld root h' gone fl le := ⟨h.row.on hb⟩
theorem TrAt.kept {N : Nat} (h : TrAt w b F B L ld root h' gone fl le) (hb : Below N w w') (hN : w.heap.size ≤ N) : TrAt w' b F B L ld root h' gone fl le := ⟨h.row.on (hb.mono hN)⟩
theorem TrAt.lt (h : TrAt w b F B L ld root h' gone fl le) : b < w.heap.size := h.row.lt
theorem TrAt.c0 (h : TrAt w b F B L ld root h' gone fl le) : w.cell? ⟨b, 0, none⟩ = some (.int .i64 F) := h.row.cell 0
theorem TrAt.c1 (h : TrAt w b F B L ld root h' gone fl le) : w.cell? ⟨b, 1, none⟩ = some (.int .i64 B) := h.row.cell 1
theorem TrAt.c2 (h : TrAt w b F B L ld root h' gone fl le) : w.cell? ⟨b, 2, none⟩ = some (.int .i64 L) := h.row.cell 2
theorem TrAt.c3 (h : TrAt w b F B L ld root h' gone fl le) : w.cell? ⟨b, 3, none⟩ = some ld := h.row.cell 3
theorem TrAt.c4 (h : TrAt w b F B L ld root h' gone fl le) : w.cell? ⟨b, 4, none⟩ = some (.pointer (some ⟨root, 0, none⟩)) := h.row.cell 4
theorem TrAt.c5 (h : TrAt w b F B L ld root h' gone fl le) : w.cell? ⟨b, 5, none⟩ = some (.int .i64 h') := h.row.cell 5
theorem TrAt.c6 (h : TrAt w b F B L ld root h' gone fl le) : w.cell? ⟨b, 6, none⟩ = some gone := h.row.cell 6
theorem TrAt.c7 (h : TrAt w b F B L ld root h' gone fl le) : w.cell? ⟨b, 7, none⟩ = some (.int .i64 fl) := h.row.cell 7
theorem TrAt.c8 (h : TrAt w b F B L ld root h' gone fl le) : w.cell? ⟨b, 8, none⟩ = some (.int .i64 le) := h.row.cell 8
theorem TrAt.fz (h : TrAt w b F B L ld root h' gone fl le) (o : Nat) : w.frozen? ⟨b, o, none⟩ = false := h.row.frozen o
theorem TrAt.far (h : TrAt w b F B L ld root h' gone fl le) (a : Addr) (hne : b ≠ a.block) (v : Value) : TrAt (w.setCell a v) b F B L ld root h' gone fl le := ⟨h.row.far a hne v⟩
end

theorem small_any (w : World) : Calls Tryz.prog 18 #[] w fun e w' => e = .returned (.agg #[.int .i64 3, .int .i64 4, .int .i64 3]) ∧ Below w.heap.size w w' := by
  go_enter Tryz.func18, Tryz.ntmps18
  go_wp2_with fail
  exact bodyPost_ret (v := .agg #[.int .i64 3, .int .i64 4, .int .i64 3]) (by simp [results, Tryz.results18, go_sem]) rfl ⟨rfl, by go_grown⟩

set_option maxHeartbeats 1000000 in
theorem new_any (F B L : Int) (fn : Fn) (xs ys : Array Value) (w : World) :
    Calls Tryz.prog 10 #[.agg #[.int .i64 F, .int .i64 B, .int .i64 L], .func fn xs ys] w fun e w' => e = .returned (.pointer (some ⟨w.heap.size + 1 + 1, 0, none⟩)) ∧ TrAt w' (w.heap.size + 1 + 1) F B L (.func fn xs ys) (w.heap.size + 1) 1 (.slice none 0 0) 0 0 ∧ VxAt w' (w.heap.size + 1) false 0 0 0 true (.slice none 0 0) (.slice none 0 0) (.slice none 0 0) (.slice none 0 0) ∧ Below w.heap.size w w' := by
  go_enter Tryz.func10, Tryz.ntmps10
  go_wp2_with fail
  go_ret
  exact ⟨rfl, ⟨RowIs.new' _ _ (trCells F B L (.func fn xs ys) (w.heap.size + 1) 1 (.slice none 0 0) 0 0) _ (by simp)⟩, ⟨(RowIs.new' _ _ (vxCells false 0 0 0 true (.slice none 0 0) (.slice none 0 0) (.slice none 0 0) (.slice none 0 0)) _ (by simp)).alloc _⟩, by go_grown⟩

set_option maxHeartbeats 1000000 in
/-- Open, at a height that may be. -/
theorem open_some (F B L : Int) (fn : Fn) (xs ys : Array Value) (pa : Int) (pg ps : Nat) (h : Int) (w : World) (h1 : 1 ≤ h) (h2 : h ≤ 32) :
    Calls Tryz.prog 22 #[.agg #[.int .i64 F, .int .i64 B, .int .i64 L], .func fn xs ys, .agg #[.int .i64 pa, .int .u64 pg, .int .u32 ps], .int .i64 h] w fun e w' => e = .returned (.tuple #[.pointer (some ⟨w.heap.size + 1 + 1 + 1, 0, none⟩), .int .i64 0]) ∧ TrAt w' (w.heap.size + 1 + 1 + 1) F B L (.func fn xs ys) (w.heap.size + 1 + 1) h (.slice none 0 0) 0 0 ∧ VxAt w' (w.heap.size + 1 + 1) true pa pg ps false (.slice none 0 0) (.slice none 0 0) (.slice none 0 0) (.slice none 0 0) ∧ Below w.heap.size w w' := by
  have e1 : decide (h < 1) = false := by simpa using h1
  have e2 : decide (32 < h) = false := by simpa using h2
  clear h1 h2
  go_enter Tryz.func22, Tryz.ntmps22
  go_wp2_with fail
  go_returns
  exact ⟨rfl, ⟨RowIs.new' _ _ (trCells F B L (.func fn xs ys) (w.heap.size + 1 + 1) h (.slice none 0 0) 0 0) _ (by simp)⟩, ⟨(RowIs.new' _ _ (vxCells true pa pg ps false (.slice none 0 0) (.slice none 0 0) (.slice none 0 0) (.slice none 0 0)) _ (by simp)).alloc _⟩, by go_grown⟩
set_option maxHeartbeats 1000000 in
theorem open_none (F B L : Int) (fn : Fn) (xs ys : Array Value) (pa : Int) (pg ps : Nat) (h : Int) (w : World) (h1 : h < 1 ∨ 32 < h) :
    Calls Tryz.prog 22 #[.agg #[.int .i64 F, .int .i64 B, .int .i64 L], .func fn xs ys, .agg #[.int .i64 pa, .int .u64 pg, .int .u32 ps], .int .i64 h] w fun e w' => e = .returned (.tuple #[.pointer none, .int .i64 2]) ∧ Below w.heap.size w w' := by
  have e1 : (decide (h < 1) || decide (32 < h)) = true := by simpa using h1
  by_cases h0 : h < 1
  · have e1 : decide (h < 1) = true := by simpa using h0
    go_enter Tryz.func22, Tryz.ntmps22
    go_wp2_with fail
    go_returns
    exact ⟨rfl, by go_grown⟩
  · have e1 : decide (h < 1) = false := by simpa using h0
    have e2 : decide (32 < h) = true := by simp; omega
    clear h0 h1
    go_enter Tryz.func22, Tryz.ntmps22
    go_wp2_with fail
    go_returns
    exact ⟨rfl, by go_grown⟩

/-! ### of nil -/
theorem get_nil (k : List UInt8) (w : World) : Calls Tryz.prog 25 #[.pointer none, .string (S k)] w fun e w' => e = .returned (.tuple #[.string ⟨#[]⟩, .bool false, .int .i64 0, .int .i64 1]) ∧ Below w.heap.size w w' := by
  go_enter Tryz.func25, Tryz.ntmps25
  go_wp2_with fail
  go_returns
  exact ⟨rfl, by go_grown⟩
theorem scan_nil (a b : ByteArray) (m : Int) (w : World) : Calls Tryz.prog 17 #[.pointer none, .string a, .string b, .int .i64 m] w fun e w' => e = .returned (.tuple #[.slice none 0 0, .int .i64 1]) ∧ Below w.heap.size w w' := by
  go_enter Tryz.func17, Tryz.ntmps17
  go_wp2_with fail
  go_returns
  exact ⟨rfl, by go_grown⟩
theorem commit_nil (f : Value) (w : World) : Calls Tryz.prog 19 #[.pointer none, f] w fun e w' => e = .returned (.tuple #[.agg #[.int .i64 0, .int .u64 0, .int .u32 0], .slice none 0 0, .int .i64 1]) ∧ Below w.heap.size w w' := by
  go_enter Tryz.func19, Tryz.ntmps19
  go_wp2_with fail
  exact bodyPost_ret (v := .tuple #[.agg #[.int .i64 0, .int .u64 0, .int .u32 0], .slice none 0 0, .int .i64 1]) (by simp [results, Tryz.results19, go_sem]) rfl ⟨rfl, by go_grown⟩
theorem copy_nil (w : World) : Calls Tryz.prog 31 #[.pointer none] w fun e w' => e = .returned (.pointer none) ∧ Below w.heap.size w w' := by
  go_enter Tryz.func31, Tryz.ntmps31
  go_wp2_with fail
  go_ret
  exact ⟨rfl, by go_grown⟩
theorem flushes_nil (w : World) : Calls Tryz.prog 15 #[.pointer none] w fun e w' => e = .returned (.tuple #[.int .i64 0, .int .i64 0]) ∧ Below w.heap.size w w' := by
  go_enter Tryz.func15, Tryz.ntmps15
  go_wp2_with fail
  go_returns
  exact ⟨rfl, by go_grown⟩
theorem apply_nil (kd : Nat) (key val : List UInt8) (dl : Nat) (w : World) : Calls Tryz.prog 13 #[.pointer none, .agg #[.int .u8 kd, .string (S key), .string (S val), .int .u64 dl]] w fun e w' => e = .returned (.int .i64 1) ∧ Below w.heap.size w w' := by
  go_enter Tryz.func13, Tryz.ntmps13
  go_wp2_with fail
  go_ret
  exact ⟨rfl, by go_grown⟩
theorem height_nil (w : World) : Calls Tryz.prog 14 #[.pointer none] w fun e w' => e = .returned (.int .i64 0) ∧ Below w.heap.size w w' := by
  go_enter Tryz.func14, Tryz.ntmps14
  go_wp2_with fail
  go_ret
  exact ⟨rfl, by go_grown⟩
theorem dirty_nil (w : World) : Calls Tryz.prog 21 #[.pointer none] w fun e w' => e = .returned (.int .i64 0) ∧ Below w.heap.size w w' := by
  go_enter Tryz.func21, Tryz.ntmps21
  go_wp2_with fail
  go_ret
  exact ⟨rfl, by go_grown⟩
theorem walk_nil (f : Value) (w : World) : Calls Tryz.prog 32 #[.pointer none, f] w fun e w' => e = .returned (.int .i64 1) ∧ Below w.heap.size w w' := by
  go_enter Tryz.func32, Tryz.ntmps32
  go_wp2_with fail
  go_ret
  exact ⟨rfl, by go_grown⟩
theorem height_any {b : Nat} {F B L : Int} {ld : Value} {root : Nat} {h' : Int} {gone : Value} {fl le : Int} (w : World) (h : TrAt w b F B L ld root h' gone fl le) : Calls Tryz.prog 14 #[.pointer (some ⟨b, 0, none⟩)] w fun e w' => e = .returned (.int .i64 h') ∧ Below w.heap.size w w' := by
  have c5 := h.c5
  go_enter Tryz.func14, Tryz.ntmps14
  go_wp2_with fail
  go_ret
  exact ⟨rfl, by go_grown⟩

end Go.Proofs.YtafciefjlkdecaaGreat
