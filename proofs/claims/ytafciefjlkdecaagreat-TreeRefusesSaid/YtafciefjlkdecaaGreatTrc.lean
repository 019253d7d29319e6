/-
  The walk of fetch: a vertex at a height, loaded.
-/
import Derived.Test.YtafciefjlkdecaaGreatTra
import Derived.Test.YtafciefjlkdecaaGreatZj
import Derived.Deep.Cut
import Derived.Deep.RegionHeld3
import Derived.BigQuiet
import Derived.Shelf.Abstract
import Derived.Deep.DeepCutAuto
import Derived.Deep.CutBlock
namespace Go.Proofs.YtafciefjlkdecaaGreat
open Go.RowKit
attribute [local go_sem ↓] Go.wp_at_zero Go.wp_at_succ

set_option maxHeartbeats 1000000 in
/-- One that is loaded. -/
theorem fetch_in {b : Nat} {kn : Bool} {pa : Int} {pg ps : Nat} {lf cs us ks : Value} (tv : Value) (h : Int) (w : World) (hv : VxAt w b kn pa pg ps true lf cs us ks) :
    Calls Tryz.prog 50 #[tv, .pointer (some ⟨b, 0, none⟩), .int .i64 h] w fun e w' => e = .returned (.tuple #[.pointer (some ⟨b, 0, none⟩), .bool false, .int .i64 0]) ∧ Below w.heap.size w w' := by
  have c4 := hv.c4
  go_enter Tryz.func50, Tryz.ntmps50
  go_wp2_with fail
  go_returns
  exact ⟨rfl, by go_grown⟩

/-- What a load answers of a block, whatever was laid since. -/
structure LoadIs (fid : FuncId) (xs ys : Array Value) (pa : Int) (pg ps : Nat) (k : Nat) (pay : List UInt8) (er : Int) (w : World) : Prop where
  ent : ∀ args w, (callFunc fid args).run Tryz.prog w = .ok (.enter fid args) w
  go : ∀ w1, Below w.heap.size w w1 → Calls Tryz.prog fid (xs ++ #[.agg #[.int .i64 pa, .int .u64 pg, .int .u32 ps]] ++ ys) w1 fun e w2 => e = .returned (.tuple #[.int .u8 k, .string (S pay), .int .i64 er]) ∧ Below w1.heap.size w1 w2

set_option maxRecDepth 100000 in
set_option maxHeartbeats 4000000 in
/-- The load fails. -/
theorem fetch_bad {tb b : Nat} {F B L : Int} {fid : FuncId} {xs ys : Array Value} {root : Nat} {h' : Int} {gone : Value} {fl le : Int} {kn : Bool} {pa : Int} {pg ps : Nat} {lf cs us ks : Value} (k : Nat) (pay : List UInt8) (er : Int) (h : Int) (w : World)
    (ht : TrAt w tb F B L (.func (.func fid) xs ys) root h' gone fl le) (hv : VxAt w b kn pa pg ps false lf cs us ks) (hl : LoadIs fid xs ys pa pg ps k pay er w) (he : er ≠ 0) :
    Calls Tryz.prog 50 #[.pointer (some ⟨tb, 0, none⟩), .pointer (some ⟨b, 0, none⟩), .int .i64 h] w fun e w' => e = .returned (.tuple #[.pointer none, .bool false, .int .i64 er]) ∧ Below w.heap.size w w' := by
  have c4 := hv.c4
  have c1 := hv.c1
  have c2 := hv.c2
  have c3 := hv.c3
  have t3 := ht.c3
  have hent := hl.ent
  go_enter Tryz.func50, Tryz.ntmps50
  go_upto_region 3 with (fail)
  go_region_law (first | (go_simp; go_at_fn fid; refine (hl.go _ (below_drew' (Below.refl _ _))).mono ?_; rintro e w2 ⟨rfl, hX⟩))
  all_goals
    have he' : (er != 0) = true := by simpa using he
    have hX2 := (below_drew' (Below.refl w.heap.size w)).trans hX
    go_wp2_with fail
    go_returns
    exact ⟨rfl, hX2⟩

theorem SlAt.setAtS {α : Type} {enc : α → List Value} {k : Nat} {w : World} {ao : Option Addr} {l : List α} (h : SlAt enc k w ao l) {p : Addr} {a : Option Addr} {n c : Nat} (hp : w.cell? p = some (.slice a n c)) (hne : ∀ x ∈ l, Value.slice a n c ∉ enc x) (u : Value) : SlAt enc k (w.setCell p u) ao l := by
  rcases h with rfl | ⟨b, off, rfl, hb, hc⟩
  · exact Or.inl rfl
  · refine Or.inr ⟨b, off, rfl, by rw [World.size_setCell]; exact hb, fun i hi j x hx => ?_⟩
    have hcell := hc i hi j x hx
    rw [World.cell?_setCell_other]
    · exact hcell
    · intro e
      rw [← e, hp] at hcell
      have hxe : x = .slice a n c := (Option.some.inj hcell).symm
      subst hxe
      exact hne _ (List.getElem_mem hi) (List.mem_of_getElem? hx)
theorem BoxE.setAt {w : World} {v : Value} {l : List Ent} (h : BoxE w v l) {p : Addr} {a : Option Addr} {n c : Nat} (hp : w.cell? p = some (.slice a n c)) (u : Value) : BoxE (w.setCell p u) v l := by
  obtain ⟨s, rfl, ao, c', rfl, hs, h1, h2, h3⟩ := h
  exact ⟨_, rfl, ao, c', rfl, hs.setAtS hp (fun x _ => by simp [Ent.cells]) u, h1, h2, h3⟩
set_option maxRecDepth 100000 in
set_option maxHeartbeats 4000000 in
/-- What is loaded isn't what the height asks. -/
theorem fetch_kind {tb b : Nat} {F B L : Int} {fid : FuncId} {xs ys : Array Value} {root : Nat} {h' : Int} {gone : Value} {fl le : Int} {kn : Bool} {pa : Int} {pg ps : Nat} {lf cs us ks : Value} (k : Nat) (pay : List UInt8) (h : Int) (w : World)
    (ht : TrAt w tb F B L (.func (.func fid) xs ys) root h' gone fl le) (hv : VxAt w b kn pa pg ps false lf cs us ks) (hl : LoadIs fid xs ys pa pg ps k pay 0 w) (hh : 1 ≤ h) (h4 : h = 1 → k ≠ 4) (h5 : 1 < h → k ≠ 5) :
    Calls Tryz.prog 50 #[.pointer (some ⟨tb, 0, none⟩), .pointer (some ⟨b, 0, none⟩), .int .i64 h] w fun e w' => e = .returned (.tuple #[.pointer none, .bool false, .int .i64 10]) ∧ Below w.heap.size w w' := by
  have c4 := hv.c4
  have c1 := hv.c1
  have c2 := hv.c2
  have c3 := hv.c3
  have t3 := ht.c3
  have hent := hl.ent
  go_enter Tryz.func50, Tryz.ntmps50
  go_upto_region 3 with (fail)
  go_cut [9, 10, 11] (fun s9 s10 s11 wx => s9 = .int .u8 k ∧ s10 = .string (S pay) ∧ s11 = .int .i64 0 ∧ Below w.heap.size w wx)
  case first =>
    go_region_law (first | (go_simp; go_at_fn fid; refine (hl.go _ (below_drew' (Below.refl _ _))).mono ?_; rintro e w2 ⟨rfl, hX⟩))
    all_goals
      have hX2 := (below_drew' (Below.refl w.heap.size w)).trans hX
      go_wp2_with fail
      go_meet
      exact ⟨rfl, rfl, rfl, hX2⟩
  case rest =>
  obtain ⟨rfl, rfl, rfl, hX2⟩ := hcut
  obtain ⟨w2, hw2⟩ : ∃ w2, w2 = wc := ⟨_, rfl⟩
  subst hw2
  replace c1 := kept_cell hX2 c1
  replace c2 := kept_cell hX2 c2
  replace c3 := kept_cell hX2 c3
  have hz := hX2.size
  by_cases h1 : h = 1
  · subst h1
    have hk : ((k : Int) == 4) = false := by have := h4 rfl; simp; omega
    go_wp2_with fail
    go_returns
    exact ⟨rfl, by go_grown⟩
  · have hk : ((k : Int) == 5) = false := by have := h5 (by omega); simp; omega
    have hk1 : (h == 1) = false := by simpa using h1
    have hk2 : decide (1 < h) = true := by simp; omega
    go_wp2_with fail
    go_returns
    exact ⟨rfl, by go_grown⟩

set_option maxRecDepth 100000 in
set_option maxHeartbeats 4000000 in
/-- A leaf is loaded. -/
theorem fetch_leaf {tb b : Nat} {F B L : Int} {fid : FuncId} {xs ys : Array Value} {root : Nat} {h' : Int} {gone : Value} {fl le : Int} {kn : Bool} {pa : Int} {pg ps : Nat} {lf cs us ks : Value} (k : Nat) (pay : List UInt8) (h : Int) (w : World)
    (ht : TrAt w tb F B L (.func (.func fid) xs ys) root h' gone fl le) (hv : VxAt w b kn pa pg ps false lf cs us ks) (hl : LoadIs fid xs ys pa pg ps k pay 0 w) (hk : k = 4) (hh : h = 1) (hp : pay.length ≤ 100000) (n : Nat) (es : List Ent) (hpe : parseE pay = (es, n)) :
    Calls Tryz.prog 50 #[.pointer (some ⟨tb, 0, none⟩), .pointer (some ⟨b, 0, none⟩), .int .i64 h] w fun e w' => ((n = 0 ∧ ∃ b' a c, e = .returned (.tuple #[.pointer (some ⟨b', 0, none⟩), .bool true, .int .i64 0]) ∧ w.heap.size ≤ b' ∧ VxAt w' b' true pa pg ps true (.slice a es.length c) (.slice none 0 0) (.slice none 0 0) (.slice none 0 0) ∧ BoxE w' (.agg #[.slice a es.length c]) es) ∨ (n ≠ 0 ∧ e = .returned (.tuple #[.pointer none, .bool false, .int .i64 10]))) ∧ Below w.heap.size w w' := by
  subst hk hh
  have HP := Lib.hid (fun w' => leafParse_any pay (by omega) w')
  rw [hpe] at HP
  clear hpe
  have c4 := hv.c4
  have c1 := hv.c1
  have c2 := hv.c2
  have c3 := hv.c3
  have t3 := ht.c3
  have hent := hl.ent
  go_enter Tryz.func50, Tryz.ntmps50
  go_upto_region 3 with (fail)
  go_cut [9, 10, 11] (fun s9 s10 s11 wx => s9 = .int .u8 (4 : Nat) ∧ s10 = .string (S pay) ∧ s11 = .int .i64 0 ∧ Below w.heap.size w wx)
  case first =>
    go_region_law (first | (go_simp; go_at_fn fid; refine (hl.go _ (below_drew' (Below.refl _ _))).mono ?_; rintro e w2 ⟨rfl, hX⟩))
    all_goals
      have hX2 := (below_drew' (Below.refl w.heap.size w)).trans hX
      go_wp2_with fail
      go_meet
      exact ⟨rfl, rfl, rfl, hX2⟩
  case rest =>
  obtain ⟨rfl, rfl, rfl, hX2⟩ := hcut
  obtain ⟨w2, hw2⟩ : ∃ w2, w2 = wc := ⟨_, rfl⟩
  subst hw2
  replace c1 := kept_cell hX2 c1
  replace c2 := kept_cell hX2 c2
  replace c3 := kept_cell hX2 c3
  have hz := hX2.size
  have HX2 := Lib.hid hX2
  clear hX2 hl
  go_upto_region 8 with (fail)
  obtain ⟨W, hW⟩ : ∃ W, W = w2.alloc (.cells (vxCells true pa pg ps true (.slice none 0 0) (.slice none 0 0) (.slice none 0 0) (.slice none 0 0)).toArray 108) := ⟨_, rfl⟩
  have hV : VxAt W w2.heap.size true pa pg ps true (.slice none 0 0) (.slice none 0 0) (.slice none 0 0) (.slice none 0 0) := ⟨by rw [hW]; exact RowIs.new _ _ _⟩
  have hX3 : Below w.heap.size w W := by rw [hW]; exact HX2.out.alloc hz _
  have e0 : w2.alloc (.cells #[.bool true, .int .i64 pa, .int .u64 pg, .int .u32 ps, .bool true, .slice none 0 0, .slice none 0 0, .slice none 0 0, .slice none 0 0] 108) = W := hW.symm
  rw [e0]
  clear e0 hW HX2 c1 c2 c3
  go_wp2_with fail
  refine (thread (HP.out W) W.heap.size W (Below.refl _ _) (Nat.le_refl _)).mono ?_
  rintro e w4 ⟨⟨a, c, rfl, hown⟩, hX4, -, -, -, hz4⟩
  dsimp only at hown ⊢
  have hV4 := hV.on hX4
  have v5 := hV4.c5
  have vf := hV4.fz 5
  have hB4 := Lib.hid (BoxE.of_own hown)
  have hLB := Lib.hid (hX3.trans (hX4.mono hX3.size))
  have hzw := hLB.out.size
  by_cases hn : n = 0
  · have hn' : ((n : Int) != 0) = false := by simp; omega
    go_wp2_with fail
    go_returns
    refine ⟨Or.inl ⟨hn, _, a, c, rfl, hz, hV4.putL _, hB4.out.setAt v5 _⟩, hLB.out.setCell (p := ⟨w2.heap.size, 5, none⟩) hz _⟩
  · have hn' : ((n : Int) != 0) = true := by simp; omega
    go_wp2_with fail
    go_returns
    exact ⟨Or.inr ⟨hn, rfl⟩, hLB.out.setCell (p := ⟨w2.heap.size, 5, none⟩) hz _⟩

end Go.Proofs.YtafciefjlkdecaaGreat
