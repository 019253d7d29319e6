/-
  The walks of Get: where the first load fails; of a leaf.
-/
import Derived.Test.YtafciefjlkdecaaGreatTrc
import Derived.Test.YtafciefjlkdecaaGreatZj
namespace Go.Proofs.YtafciefjlkdecaaGreat
open Go.RowKit
attribute [local go_sem ↓] Go.wp_at_zero Go.wp_at_succ

theorem reverse_nil (w : World) : Calls Tryz.prog 52 #[.slice none 0 0] w fun e w' => e = .returned (.tuple #[]) ∧ Below w.heap.size w w' := by
  go_enter Tryz.func52, Tryz.ntmps52
  go_wp2_with fail
  go_loopw [2, 3] (fun i j wr => i = .int .i64 0 ∧ j = .int .i64 (-1) ∧ Below w.heap.size w wr) (fun _ _ _ => 0)
  case atStart => exact ⟨rfl, rfl, by go_grown⟩
  case round =>
    obtain ⟨rfl, rfl, hB⟩ := hrel
    go_wp2_with fail
    exact bodyPost_end (v := .tuple #[]) (by simp [results, Tryz.results52, go_sem]) rfl ⟨rfl, hB⟩

/-- No update changes nothing. -/
theorem msgAll_nil (v : List UInt8) (th : Bool) (w : World) : Calls Tryz.prog 53 #[.string (S v), .bool th, .slice none 0 0] w fun e w' => e = .returned (.tuple #[.string (S (if th then v else [])), .bool th]) ∧ Below w.heap.size w w' := by
  cases th
  · go_enter Tryz.func53, Tryz.ntmps53
    go_wp2_with fail
    go_loopw [0, 1, 14] (fun s0 s1 i wr => s0 = .string (S (([] : List UInt8))) ∧ s1 = .bool false ∧ i = .int .i64 0 ∧ Below w.heap.size w wr) (fun _ _ _ _ => 0)
    case atStart => exact ⟨rfl, rfl, rfl, by go_grown⟩
    case round =>
      obtain ⟨rfl, rfl, rfl, hB⟩ := hrel
      go_wp2_with fail
      go_returns
      exact ⟨rfl, hB⟩
  · go_enter Tryz.func53, Tryz.ntmps53
    go_wp2_with fail
    go_loopw [0, 1, 14] (fun s0 s1 i wr => s0 = .string (S (v)) ∧ s1 = .bool true ∧ i = .int .i64 0 ∧ Below w.heap.size w wr) (fun _ _ _ _ => 0)
    case atStart => exact ⟨rfl, rfl, rfl, by go_grown⟩
    case round =>
      obtain ⟨rfl, rfl, rfl, hB⟩ := hrel
      go_wp2_with fail
      go_returns
      exact ⟨rfl, hB⟩

/-- What a fetch answers, whatever was laid since: an error. -/
def FetchBad (tb b : Nat) (h : Int) (er : Int) (w : World) : Prop :=
  ∀ w1, Below w.heap.size w w1 → Calls Tryz.prog 50 #[.pointer (some ⟨tb, 0, none⟩), .pointer (some ⟨b, 0, none⟩), .int .i64 h] w1 fun e w2 => e = .returned (.tuple #[.pointer none, .bool false, .int .i64 er]) ∧ Below w1.heap.size w1 w2
/-- .. a leaf. -/
def FetchLeaf (tb b : Nat) (es : List Ent) (ld : Bool) (w : World) : Prop :=
  ∀ w1, Below w.heap.size w w1 → Calls Tryz.prog 50 #[.pointer (some ⟨tb, 0, none⟩), .pointer (some ⟨b, 0, none⟩), .int .i64 1] w1 fun e w2 => (∃ b' kn pa pg ps a c cs us ks, e = .returned (.tuple #[.pointer (some ⟨b', 0, none⟩), .bool ld, .int .i64 0]) ∧ VxAt w2 b' kn pa pg ps true (.slice a es.length c) cs us ks ∧ BoxE w2 (.agg #[.slice a es.length c]) es) ∧ Below w1.heap.size w1 w2

set_option maxRecDepth 100000 in
set_option maxHeartbeats 2000000 in
theorem get_fail {tb : Nat} {F B L : Int} {ld : Value} {root : Nat} {h' : Int} {gone : Value} {fl le : Int} (k : List UInt8) (er : Int) (w : World) (ht : TrAt w tb F B L ld root h' gone fl le) (hf : FetchBad tb root h' er w) (he : er ≠ 0) :
    Calls Tryz.prog 25 #[.pointer (some ⟨tb, 0, none⟩), .string (S k)] w fun e w' => e = .returned (.tuple #[.string ⟨#[]⟩, .bool false, .int .i64 0, .int .i64 er]) ∧ Below w.heap.size w w' := by
  have c4 := ht.c4
  have c5 := ht.c5
  have he' : (er != 0) = true := by simpa using he
  go_enter Tryz.func25, Tryz.ntmps25
  go_wp2_with fail
  go_loopw [8, 9, 10, 11] (fun s8 s9 s10 s11 wr => s8 = .slice none 0 0 ∧ s9 = .int .i64 0 ∧ s10 = .pointer (some ⟨root, 0, none⟩) ∧ s11 = .int .i64 h' ∧ Below w.heap.size w wr) (fun _ _ _ _ _ => 0)
  case atStart => exact ⟨rfl, rfl, rfl, rfl, by go_grown⟩
  case round =>
    obtain ⟨rfl, rfl, rfl, rfl, hB⟩ := hrel
    go_wp2_with fail
    refine (thread (hf wr hB) wr.heap.size wr (Below.refl _ _) (Nat.le_refl _)).mono ?_
    rintro e w2 ⟨rfl, hX, -, -, -, hz⟩
    have hB2 := hB.trans (hX.mono hB.size)
    go_wp2_with fail
    go_returns
    exact ⟨rfl, hB2⟩

set_option maxRecDepth 100000 in
set_option maxHeartbeats 4000000 in
theorem get_leaf {tb : Nat} {F B L : Int} {ld : Value} {root : Nat} {gone : Value} {fl le : Int} (k : List UInt8) (es : List Ent) (lo : Bool) (w : World) (ht : TrAt w tb F B L ld root 1 gone fl le) (hf : FetchLeaf tb root es lo w) (hr : Rising Ent.key es) (hl : es.length ≤ 100000) :
    Calls Tryz.prog 25 #[.pointer (some ⟨tb, 0, none⟩), .string (S k)] w fun e w' => e = .returned (.tuple #[.string (S ((lookE es k).getD [])), .bool (lookE es k).isSome, .int .i64 (if lo then 1 else 0), .int .i64 0]) ∧ Below w.heap.size w w' := by
  have c4 := ht.c4
  have c5 := ht.c5
  have HG := Lib.hid (fun v w' h => getE_any v es k w' h hl hr)
  generalize lookE es k = o at *
  obtain ⟨vv, tt, hV, h1, h2⟩ : ∃ (vv : List UInt8) (tt : Bool), valV o = .tuple #[.string (S vv), .bool tt] ∧ (if tt then vv else []) = o.getD [] ∧ tt = o.isSome := by
    cases o with
    | none => exact ⟨[], false, rfl, rfl, rfl⟩
    | some v => exact ⟨v, true, rfl, rfl, rfl⟩
  rw [hV] at HG
  rw [← h1, ← h2]
  have HM := Lib.hid (fun w => msgAll_nil vv tt w)
  obtain ⟨Z, hZ⟩ : ∃ Z, Z = (if tt then vv else []) := ⟨_, rfl⟩
  rw [← hZ] at HM ⊢
  clear hZ h1 h2 hV o
  go_enter Tryz.func25, Tryz.ntmps25
  go_wp2_with fail
  go_loopw [8, 9, 10, 11] (fun s8 s9 s10 s11 wr => s8 = .slice none 0 0 ∧ s9 = .int .i64 0 ∧ s10 = .pointer (some ⟨root, 0, none⟩) ∧ s11 = .int .i64 1 ∧ Below w.heap.size w wr) (fun _ _ _ _ _ => 0)
  case atStart => exact ⟨rfl, rfl, rfl, rfl, by go_grown⟩
  case round =>
    obtain ⟨rfl, rfl, rfl, rfl, hB⟩ := hrel
    go_wp2_with fail
    refine (thread (hf wr hB) wr.heap.size wr (Below.refl _ _) (Nat.le_refl _)).mono ?_
    rintro e w2 ⟨⟨b', kn, pa, pg, ps, a, c, cs, us, ks, rfl, hv, hb⟩, hX, -, -, -, hz⟩
    have hB2 := hB.trans (hX.mono hB.size)
    have v5 := hv.c5
    have HB := Lib.hid hb
    clear hb hX
    cases lo
    all_goals
      go_wp2_with fail
      refine (thread (HG.out _ w2 HB.out) w2.heap.size w2 (Below.refl _ _) (Nat.le_refl _)).mono ?_
      rintro e w3 ⟨rfl, hX3, -, -, -, hz3⟩
      have hB3 := hB2.trans (hX3.mono hB2.size)
      go_wp2_with fail
      refine (thread (reverse_nil w3) w3.heap.size w3 (Below.refl _ _) (Nat.le_refl _)).mono ?_
      rintro e w4 ⟨rfl, hX4, -, -, -, hz4⟩
      have hB4 := hB3.trans (hX4.mono hB3.size)
      go_wp2_with fail
      refine (thread (HM.out w4) w4.heap.size w4 (Below.refl _ _) (Nat.le_refl _)).mono ?_
      rintro e w5 ⟨rfl, hX5, -, -, -, hz5⟩
      have hB5 := hB4.trans (hX5.mono hB4.size)
      go_wp2_with fail
      go_returns
      exact ⟨rfl, hB5⟩

end Go.Proofs.YtafciefjlkdecaaGreat
