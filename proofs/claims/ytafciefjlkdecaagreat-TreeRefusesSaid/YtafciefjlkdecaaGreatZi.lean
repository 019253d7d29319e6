/-
  The walk of the document's Parse of entries.
  The walk of leaf.Parse.
  The walk of the document's bytes of entries (layer 16).
  The walks of strings.Builder's copyCheck and WriteString (after the shelf's own).
  Two rows of updates that grow side by side: the appends of one statement, in whatever order their operands are laid.
  Updates that tame made stay such in a buffer: plain laws.
  What the waiting message of a key is: the join of all that were put of it; what that makes of a value. Plain laws.
  The walk of msg.All.
  The plain words of layer 18 (plan): when a plan may be, how many bytes its full node and leaf have, its check and its best. No program in sight.
-/
import Derived.Test.YtafciefjlkdecaaGreatZg
import Derived.Test.YtafciefjlkdecaaGreatZh
import Derived.Test.YtafciefjlkdecaaGreatZa
import Derived.BigRegion
import Derived.Test.YtafciefjlkdecaaGreatZc
import Derived.Deep.RegionHeld3
import Derived.Test.YtafciefjlkdecaaGreatZd
namespace Go.Proofs.YtafciefjlkdecaaGreat
open Go.RowKit
attribute [local go_sem ↓] Go.wp_at_zero Go.wp_at_succ

/-- Entries, and an error's number. -/
def ParRes (B : Nat) (p : List Ent × Nat) (e : Ending) (w' : World) : Prop :=
  ∃ a c, e = .returned (.tuple #[.slice a p.1.length c, .int .i64 p.2]) ∧ w'.ownsRow B 72 2 (.slice a p.1.length c) p.1.length (cellsE p.1)
theorem cell_two_at (w : World) (b : Nat) (hb : w.heap.size = b) (x y : Value) (t : TypeId) : ∀ j v, [x, y][j]? = some v → (w.alloc (.cells #[x, y] t)).cell? ((⟨b, 0, none⟩ : Addr).add j) = some v := by
  subst hb
  exact cell_two_new w x y t

set_option maxRecDepth 100000 in
set_option maxHeartbeats 4000000 in
theorem refParse_any (s0 : List UInt8) (hl : s0.length ≤ 1000000) (w : World) :
    Calls Tryz.prog 37 #[.string (S s0)] w fun e w' => ParRes w.heap.size (parseE s0) e w' ∧ Below w.heap.size w w' := by
  obtain ⟨i0, hi, iz0, iz1, iz2⟩ := info_parts infoR
  have HE0 := Lib.hid (fun h : rawE s0 = none => parseE_none h)
  have HE1 := Lib.hid (fun (l : List Ent) (h : rawE s0 = some l) => And.intro (parseE_bad h) (parseE_ok h))
  generalize parseE s0 = P at *
  go_enter Tryz.func37, Tryz.ntmps37
  go_wp2_with fail
  go_loopw [0, 4] (fun s v wr => ∃ (t : List UInt8) (acc : List Ent), s = .string (S t) ∧ t.length + acc.length ≤ s0.length ∧ Hid (rawE s0 = (rawE t).map fun l => acc ++ l) ∧ wr.ownsRow w.heap.size 72 2 v acc.length (cellsE acc) ∧ Below w.heap.size w wr) (fun s _ _ => match s with | .string x => x.size | _ => 0)
  case atStart => exact ⟨s0, [], rfl, by simp, Lib.hid (by simp), World.ownsRow_nil _ _ _ _, by go_grown⟩
  case round =>
    obtain ⟨t, acc, rfl, hlen, hR, hown, hB⟩ := hrel
    obtain ⟨av, ac, ea⟩ := own_form hown
    subst ea
    have HO := Lib.hid hown
    cases t with
    | nil =>
      have hraw := Lib.hid (raw_end hR.out)
      have hsl := SlE.of_row hown
      obtain ⟨x, y, ee, hsa, -⟩ := hsl.2
      simp only [Value.slice.injEq] at ee
      obtain ⟨rfl, -, rfl⟩ := ee
      have HR := Lib.hid (refRight_any av ac acc (rightB acc) (rightB_iff acc) wr (by omega) hsa)
      have HE := Lib.hid (HE1.out acc hraw.out)
      clear hown hsl hsa hraw hR
      cases hb : rightB acc with
      | false =>
        rw [hb] at HR
        have HP := Lib.hid (HE.out.1 hb)
        clear HE hb
        go_wp2_with fail
        refine (thread HR.out w.heap.size w hB hB.size).mono ?_
        rintro e w1 ⟨rfl, hB1, -, -, -, hz1⟩
        go_wp2_with fail
        refine bodyPost_ret (v := .tuple #[.slice none 0 0, .int .i64 4]) (by simp [results, Tryz.results37, go_sem]) rfl ⟨?_, hB1⟩
        rw [HP.out]
        exact ⟨none, 0, rfl, World.ownsRow_nil _ _ _ _⟩
      | true =>
        rw [hb] at HR
        have HP := Lib.hid (HE.out.2 hb)
        clear HE hb
        go_wp2_with fail
        refine (thread HR.out wr.heap.size wr (Below.refl _ _) (Nat.le_refl _)).mono ?_
        rintro e w1 ⟨rfl, hX1, -, -, -, hz1⟩
        have HO1 := Lib.hid (own_below HO.out hX1)
        have hB1 := hB.trans (hX1.mono hB.size)
        go_wp2_with fail
        refine bodyPost_ret (v := .tuple #[.slice av acc.length ac, .int .i64 0]) (by simp [results, Tryz.results37, go_sem]) rfl ⟨?_, hB1⟩
        rw [HP.out]
        exact ⟨av, ac, rfl, HO1.out⟩
    | cons b r =>
      have hl0 : (S (b :: r)).size = r.length + 1 := by rw [S_size]; rfl
      rw [List.length_cons] at hlen
      have hs1 := fun W => refSplit_any (b :: r) (by rw [List.length_cons]; omega) W
      unfold splitV at hs1
      have hq1 := splitL_len (b :: r)
      have hst : stepE (b :: r) = if (splitL (b :: r)).2.2 && (splitL (splitL (b :: r)).2.1).2.2 then some (⟨(splitL (b :: r)).1, (splitL (splitL (b :: r)).2.1).1⟩, (splitL (splitL (b :: r)).2.1).2.1) else none := rfl
      rw [List.length_cons] at hq1
      generalize splitL (b :: r) = p1 at *
      obtain ⟨k, rest, ok⟩ := p1
      dsimp only at hs1 hq1 hst
      have hs2 := fun W => refSplit_any rest (by omega) W
      unfold splitV at hs2
      have hq2 := splitL_len rest
      generalize splitL rest = p2 at *
      obtain ⟨v, more, is⟩ := p2
      dsimp only at hs2 hq2 hst
      obtain ⟨hq1, hq1'⟩ := hq1
      obtain ⟨hq2, hq2'⟩ := hq2
      have H1 := Lib.hid hs1
      have H2 := Lib.hid hs2
      clear hs1 hs2 hown
      by_cases hgo : ok = true ∧ is = true
      · obtain ⟨rfl, rfl⟩ := hgo
        have hstep : stepE (b :: r) = some (⟨k, v⟩, more) := by rw [hst]; rfl
        have HN := Lib.hid (raw_more hR.out (by simp) hstep)
        have hq3 := hq1' rfl
        clear hst hstep hq1' hq2' hR
        go_wp2_with fail
        refine (thread (H1.out _) wr.heap.size wr (by go_grown) (by go_grown)).mono ?_
        rintro e w1 ⟨rfl, hX1, -, -, -, hz1⟩
        have HO1 := Lib.hid (own_below HO.out hX1)
        have hB1 := hB.trans (hX1.mono hB.size)
        go_wp2_with fail
        refine (thread (H2.out _) w1.heap.size w1 (by go_grown) (by go_grown)).mono ?_
        rintro e w2 ⟨rfl, hX2, -, -, -, hz2⟩
        have HO2 := Lib.hid (own_below HO1.out hX2)
        have hB2 := hB1.trans (hX2.mono hB1.size)
        have hz := hB2.size
        clear H1 H2 hX1 hX2
        go_wp2_with (at_builtin; go_must (refine wpList_append_own_at _ rfl _ _ 49 rfl w.heap.size 72 i0 (.agg #[.string ByteArray.empty, .string ByteArray.empty]) 2 32 Tryz.underlying49 hi iz0 iz1 iz2 rfl (by decide) _ acc.length _ rfl (HO2.out.alloc _) ⟨w2.heap.size, 0, none⟩ 1 1 [.string (S k), .string (S v)] rfl rfl (cell_two_new _ _ _ _) (by simp [Value.oneCell']) (by unfold maxLen; omega) (by omega) (by simp; omega) ?_; intro vz wz hownz hgrowz _ _))
        go_roundw
        (case rel => exact (⟨more, acc ++ [⟨k, v⟩], rfl, by rw [List.length_append, List.length_singleton]; omega, HN, by rw [cellsE_append, cellsE_one, List.length_append, List.length_singleton]; exact hownz, below_grown (hB2.alloc hz _) hgrowz (fun k e => (HO2.out.lt k e).1) (by simp; omega)⟩))
        (case measure => simp [S_size]; omega)
      · have hno : (ok && is) = false := by
          cases ok <;> cases is <;> simp_all
        have hstep : stepE (b :: r) = none := by rw [hst, hno]; rfl
        have HP := Lib.hid (HE0.out (raw_stop hR.out (by simp) hstep))
        clear hst hstep hq1' hq2' hR hgo
        cases ok with
        | false =>
          clear hno
          go_wp2_with fail
          refine (thread (H1.out _) wr.heap.size wr (by go_grown) (by go_grown)).mono ?_
          rintro e w1 ⟨rfl, hX1, -, -, -, hz1⟩
          have hB1 := hB.trans (hX1.mono hB.size)
          go_wp2_with fail
          refine (thread (H2.out _) w1.heap.size w1 (by go_grown) (by go_grown)).mono ?_
          rintro e w2 ⟨rfl, hX2, -, -, -, hz2⟩
          have hB2 := hB1.trans (hX2.mono hB1.size)
          clear H1 H2 hX1 hX2
          go_wp2_with fail
          refine bodyPost_ret (v := .tuple #[.slice none 0 0, .int .i64 4]) (by simp [results, Tryz.results37, go_sem]) rfl ⟨?_, hB2⟩
          rw [HP.out]
          exact ⟨none, 0, rfl, World.ownsRow_nil _ _ _ _⟩
        | true =>
          obtain rfl : is = false := by simpa using hno
          clear hno
          go_wp2_with fail
          refine (thread (H1.out _) wr.heap.size wr (by go_grown) (by go_grown)).mono ?_
          rintro e w1 ⟨rfl, hX1, -, -, -, hz1⟩
          have hB1 := hB.trans (hX1.mono hB.size)
          go_wp2_with fail
          refine (thread (H2.out _) w1.heap.size w1 (by go_grown) (by go_grown)).mono ?_
          rintro e w2 ⟨rfl, hX2, -, -, -, hz2⟩
          have hB2 := hB1.trans (hX2.mono hB1.size)
          clear H1 H2 hX1 hX2
          go_wp2_with fail
          refine bodyPost_ret (v := .tuple #[.slice none 0 0, .int .i64 4]) (by simp [results, Tryz.results37, go_sem]) rfl ⟨?_, hB2⟩
          rw [HP.out]
          exact ⟨none, 0, rfl, World.ownsRow_nil _ _ _ _⟩

end Go.Proofs.YtafciefjlkdecaaGreat

namespace Go.Proofs.YtafciefjlkdecaaGreat
open Go.RowKit
attribute [local go_sem ↓] Go.wp_at_zero Go.wp_at_succ

/-- A leaf, and an error's number. -/
def LfRes (B : Nat) (p : List Ent × Nat) (e : Ending) (w' : World) : Prop :=
  ∃ a c, e = .returned (.tuple #[.agg #[.slice a p.1.length c], .int .i64 p.2]) ∧ w'.ownsRow B 73 2 (.slice a p.1.length c) p.1.length (cellsE p.1)

theorem LfRes.none (B : Nat) (n : Nat) (w' : World) (e : Ending) (he : e = .returned (.tuple #[.agg #[.slice none 0 0], .int .i64 n])) : LfRes B ([], n) e w' := ⟨Option.none, 0, he, World.ownsRow_nil _ _ _ _⟩

set_option maxRecDepth 100000 in
set_option maxHeartbeats 4000000 in
theorem leafParse_any (s0 : List UInt8) (hl : s0.length ≤ 1000000) (w : World) :
    Calls Tryz.prog 86 #[.string (S s0)] w fun e w' => LfRes w.heap.size (parseE s0) e w' ∧ Below w.heap.size w w' := by
  obtain ⟨i0, hi, iz0, iz1, iz2⟩ := info_parts infoE
  have HE0 := Lib.hid (fun h : rawE s0 = none => parseE_none h)
  have HE1 := Lib.hid (fun (l : List Ent) (h : rawE s0 = some l) => And.intro (parseE_bad h) (parseE_ok h))
  generalize parseE s0 = P at *
  go_enter Tryz.func86, Tryz.ntmps86
  go_wp2_with fail
  go_loopw [0, 4] (fun s v wr => ∃ (t : List UInt8) (acc : List Ent), s = .string (S t) ∧ t.length + acc.length ≤ s0.length ∧ Hid (rawE s0 = (rawE t).map fun l => acc ++ l) ∧ wr.ownsRow (w.heap.size + 1) 73 2 v acc.length (cellsE acc) ∧ Below (w.heap.size + 1) (w.alloc (.cells #[.slice none 0 0] 99)) wr) (fun s _ _ => match s with | .string x => x.size | _ => 0)
  case atStart => exact ⟨s0, [], rfl, by simp, Lib.hid (by simp), World.ownsRow_nil _ _ _ _, Below.refl _ _⟩
  case round =>
    obtain ⟨t, acc, rfl, hlen, hR, hown, hB⟩ := hrel
    obtain ⟨av, ac, ea⟩ := own_form hown
    subst ea
    have HO := Lib.hid hown
    have hsz := hB.size
    have hsz1 : w.heap.size + 1 ≤ wr.heap.size := by simpa using hsz
    clear hsz
    have p0 : wr.cell? ⟨w.heap.size, 0, none⟩ = some (.slice none 0 0) := (hB.cell (p := ⟨w.heap.size, 0, none⟩) (Nat.lt_succ_self _)).trans (by simp)
    have pf : wr.frozen? ⟨w.heap.size, 0, none⟩ = false := (hB.frozen (p := ⟨w.heap.size, 0, none⟩) (Nat.lt_succ_self _)).trans (by simp)
    have hBw : Below w.heap.size w wr := (Below.alloc (Below.refl _ w) (Nat.le_refl _) (.cells #[.slice none 0 0] 99)).trans (hB.mono (Nat.le_succ _))
    cases t with
    | nil =>
      have hraw := Lib.hid (raw_end hR.out)
      have hsl := (SlE.of_own hown).2
      have HR := Lib.hid (leafOf_any av acc.length ac acc wr rfl (by omega) hsl)
      have HE := Lib.hid (HE1.out acc hraw.out)
      clear hown hsl hraw hR
      cases hb : rightB acc with
      | false =>
        rw [hb] at HR
        have HP := Lib.hid (HE.out.1 hb)
        clear HE hb
        go_wp2_with fail
        refine (thread HR.out wr.heap.size wr (Below.refl _ _) (Nat.le_refl _)).mono ?_
        rintro e w1 ⟨rfl, hX1, hk1, hf1, -, hz1⟩
        have p1 := (hk1 w.heap.size 0 (by omega)).trans p0
        have pf1 := (hf1 w.heap.size 0 (by omega)).trans pf
        have hB1 := hBw.trans (hX1.mono (by omega))
        have hlt1 : w.heap.size < w1.heap.size := by omega
        clear hk1 hf1 hX1 p0 pf
        go_wp2_with fail
        have pz := cell_past (.cells #[.slice none 0 0] 99) (show (w1.setCell ⟨w.heap.size, 0, none⟩ (.slice none 0 0)).cell? ⟨w.heap.size, 0, none⟩ = some (.slice none 0 0) from World.cell?_setCell_same w1 _ _ p1)
        refine bodyPost_ret (v := .tuple #[.agg #[.slice none 0 0], .int .i64 4]) (by simp [results, Tryz.results86, go_sem, pz]) rfl ⟨?_, ?_⟩
        · rw [HP.out]
          exact LfRes.none _ _ _ _ rfl
        · exact (hB1.setCell (p := ⟨w.heap.size, 0, none⟩) (Nat.le_refl _) _).alloc (by rw [World.size_setCell]; omega) _
      | true =>
        rw [hb] at HR
        have HP := Lib.hid (HE.out.2 hb)
        clear HE hb
        go_wp2_with fail
        refine (thread HR.out wr.heap.size wr (Below.refl _ _) (Nat.le_refl _)).mono ?_
        rintro e w1 ⟨⟨a1, c1, rfl, hown1⟩, hX1, hk1, hf1, -, hz1⟩
        have p1 := (hk1 w.heap.size 0 (by omega)).trans p0
        have pf1 := (hf1 w.heap.size 0 (by omega)).trans pf
        have hB1 := hBw.trans (hX1.mono (by omega))
        have HO1 := Lib.hid hown1
        have hlt1 : w.heap.size < w1.heap.size := by omega
        clear hk1 hf1 hX1 p0 pf hown1
        go_wp2_with fail
        have pz := cell_past (.cells #[.slice a1 acc.length c1] 99) (show (w1.setCell ⟨w.heap.size, 0, none⟩ (.slice a1 acc.length c1)).cell? ⟨w.heap.size, 0, none⟩ = some (.slice a1 acc.length c1) from World.cell?_setCell_same w1 _ _ p1)
        refine bodyPost_ret (v := .tuple #[.agg #[.slice a1 acc.length c1], .int .i64 0]) (by simp [results, Tryz.results86, go_sem, pz]) rfl ⟨?_, ?_⟩
        · rw [HP.out]
          exact ⟨a1, c1, rfl, own_base ((ownsRow_setCell_other (a := ⟨w.heap.size, 0, none⟩) HO1.out (fun e => by have h : wr.heap.size ≤ w.heap.size := (HO1.out.lt _ e).1; omega) _).alloc _) (by omega)⟩
        · exact (hB1.setCell (p := ⟨w.heap.size, 0, none⟩) (Nat.le_refl _) _).alloc (by rw [World.size_setCell]; omega) _
    | cons b r =>
      have hl0 : (S (b :: r)).size = r.length + 1 := by rw [S_size]; rfl
      rw [List.length_cons] at hlen
      have hs1 := fun W => split_any (b :: r) (by rw [List.length_cons]; omega) W
      unfold splitV at hs1
      have hq1 := splitL_len (b :: r)
      have hst : stepE (b :: r) = if (splitL (b :: r)).2.2 && (splitL (splitL (b :: r)).2.1).2.2 then some (⟨(splitL (b :: r)).1, (splitL (splitL (b :: r)).2.1).1⟩, (splitL (splitL (b :: r)).2.1).2.1) else none := rfl
      rw [List.length_cons] at hq1
      generalize splitL (b :: r) = p1 at *
      obtain ⟨k, rest, ok⟩ := p1
      dsimp only at hs1 hq1 hst
      have hs2 := fun W => split_any rest (by omega) W
      unfold splitV at hs2
      have hq2 := splitL_len rest
      generalize splitL rest = p2 at *
      obtain ⟨v, more, is⟩ := p2
      dsimp only at hs2 hq2 hst
      obtain ⟨hq1, hq1'⟩ := hq1
      obtain ⟨hq2, hq2'⟩ := hq2
      have H1 := Lib.hid hs1
      have H2 := Lib.hid hs2
      clear hs1 hs2 hown
      by_cases hgo : ok = true ∧ is = true
      · obtain ⟨rfl, rfl⟩ := hgo
        have hstep : stepE (b :: r) = some (⟨k, v⟩, more) := by rw [hst]; rfl
        have HN := Lib.hid (raw_more hR.out (by simp) hstep)
        have hq3 := hq1' rfl
        clear hst hstep hq1' hq2' hR p0 pf hBw
        go_wp2_with fail
        refine (thread (H1.out _) wr.heap.size wr (by go_grown) (by go_grown)).mono ?_
        rintro e w1 ⟨rfl, hX1, -, -, -, hz1⟩
        have HO1 := Lib.hid (own_below HO.out hX1)
        have hB1 := hB.trans (hX1.mono hsz1)
        go_wp2_with fail
        refine (thread (H2.out _) w1.heap.size w1 (by go_grown) (by go_grown)).mono ?_
        rintro e w2 ⟨rfl, hX2, -, -, -, hz2⟩
        have HO2 := Lib.hid (own_below HO1.out hX2)
        have hB2 := hB1.trans (hX2.mono (by omega))
        have hz : w.heap.size + 1 ≤ w2.heap.size := by omega
        clear H1 H2 hX1 hX2
        go_wp2_with (at_builtin; go_must (refine wpList_append_own_at _ rfl _ _ 43 rfl (w.heap.size + 1) 73 i0 (.agg #[.string ByteArray.empty, .string ByteArray.empty]) 2 32 Tryz.underlying43 hi iz0 iz1 iz2 rfl (by decide) _ acc.length _ rfl (HO2.out.alloc _) ⟨w2.heap.size, 0, none⟩ 1 1 [.string (S k), .string (S v)] rfl rfl (cell_two_new _ _ _ _) (by simp [Value.oneCell']) (by unfold maxLen; omega) (by omega) (by simp; omega) ?_; intro vz wz hownz hgrowz _ _))
        go_roundw
        (case rel => exact (⟨more, acc ++ [⟨k, v⟩], rfl, by rw [List.length_append, List.length_singleton]; omega, HN, by rw [cellsE_append, cellsE_one, List.length_append, List.length_singleton]; exact hownz, below_grown (hB2.alloc hz _) hgrowz (fun k e => (HO2.out.lt k e).1) (by simp; omega)⟩))
        (case measure => simp [S_size]; omega)
      · have hno : (ok && is) = false := by
          cases ok <;> cases is <;> simp_all
        have hstep : stepE (b :: r) = none := by rw [hst, hno]; rfl
        have HP := Lib.hid (HE0.out (raw_stop hR.out (by simp) hstep))
        clear hst hstep hq1' hq2' hR hgo
        cases ok with
        | false =>
          clear hno
          go_wp2_with fail
          refine (thread (H1.out _) wr.heap.size wr (by go_grown) (by go_grown)).mono ?_
          rintro e w1 ⟨rfl, hX1, hk1, hf1, -, hz1⟩
          have p1 := (hk1 w.heap.size 0 (by omega)).trans p0
          have pf1 := (hf1 w.heap.size 0 (by omega)).trans pf
          have hB1 := hBw.trans (hX1.mono (by omega))
          clear hk1 hf1 hX1 p0 pf
          go_wp2_with fail
          refine (thread (H2.out _) w1.heap.size w1 (by go_grown) (by go_grown)).mono ?_
          rintro e w2 ⟨rfl, hX2, hk2, hf2, -, hz2⟩
          have p2 := (hk2 w.heap.size 0 (by omega)).trans p1
          have pf2 := (hf2 w.heap.size 0 (by omega)).trans pf1
          have hB2 := hB1.trans (hX2.mono (by omega))
          clear H1 H2 hk2 hf2 hX2 p1 pf1
          go_wp2_with fail
          refine bodyPost_ret (v := .tuple #[.agg #[.slice none 0 0], .int .i64 4]) (by simp [results, Tryz.results86, go_sem, p2]) rfl ⟨?_, ?_⟩
          · rw [HP.out]
            exact LfRes.none _ _ _ _ rfl
          · exact hB2.setCell (p := ⟨w.heap.size, 0, none⟩) (Nat.le_refl _) _
        | true =>
          obtain rfl : is = false := by simpa using hno
          clear hno
          go_wp2_with fail
          refine (thread (H1.out _) wr.heap.size wr (by go_grown) (by go_grown)).mono ?_
          rintro e w1 ⟨rfl, hX1, hk1, hf1, -, hz1⟩
          have p1 := (hk1 w.heap.size 0 (by omega)).trans p0
          have pf1 := (hf1 w.heap.size 0 (by omega)).trans pf
          have hB1 := hBw.trans (hX1.mono (by omega))
          clear hk1 hf1 hX1 p0 pf
          go_wp2_with fail
          refine (thread (H2.out _) w1.heap.size w1 (by go_grown) (by go_grown)).mono ?_
          rintro e w2 ⟨rfl, hX2, hk2, hf2, -, hz2⟩
          have p2 := (hk2 w.heap.size 0 (by omega)).trans p1
          have pf2 := (hf2 w.heap.size 0 (by omega)).trans pf1
          have hB2 := hB1.trans (hX2.mono (by omega))
          clear H1 H2 hk2 hf2 hX2 p1 pf1
          go_wp2_with fail
          refine bodyPost_ret (v := .tuple #[.agg #[.slice none 0 0], .int .i64 4]) (by simp [results, Tryz.results86, go_sem, p2]) rfl ⟨?_, ?_⟩
          · rw [HP.out]
            exact LfRes.none _ _ _ _ rfl
          · exact hB2.setCell (p := ⟨w.heap.size, 0, none⟩) (Nat.le_refl _) _

end Go.Proofs.YtafciefjlkdecaaGreat

namespace Go.Proofs.YtafciefjlkdecaaGreat
open Go.RowKit

theorem entText_step {l : List Ent} {i : Nat} (hi : i < l.length) : entText (l.take (i + 1)) = entText (l.take i) ++ (l[i]).bytes := by
  rw [List.take_succ_eq_append_getElem hi]; simp only [entText, List.flatMap_append, List.flatMap_cons, List.flatMap_nil, List.append_nil]

end Go.Proofs.YtafciefjlkdecaaGreat

namespace Go.Proofs.YtafciefjlkdecaaGreat
open Go.RowKit

end Go.Proofs.YtafciefjlkdecaaGreat

namespace Go.Proofs.YtafciefjlkdecaaGreat
open Go.RowKit

end Go.Proofs.YtafciefjlkdecaaGreat

namespace Go.Proofs.YtafciefjlkdecaaGreat
open Go.RowKit
attribute [local go_sem ↓] Go.wp_at_zero Go.wp_at_succ

theorem entBytes (u : Ent) : Ent.bytes u = joinT u.key ++ joinT u.val := by simp [Ent.bytes, joinT]

theorem entText_len : ∀ l : List Ent, FineE l → (entText l).length ≤ 50 * l.length
  | [], _ => by simp [entText]
  | e :: l, h => by
    have h1 := entText_len l (fun x hx => h x (List.mem_cons_of_mem _ hx))
    obtain ⟨-, h2, h3⟩ := h e (by simp)
    have h4 : entText (e :: l) = Ent.bytes e ++ entText l := rfl
    rw [h4, entBytes, List.length_append, List.length_append, joinT_len, joinT_len, List.length_cons]
    omega
set_option maxRecDepth 100000 in
set_option maxHeartbeats 4000000 in
theorem leafText_any (a : Option Addr) (n c : Nat) (l : List Ent) (w : World) (hn : n = l.length) (hv : BoxE w (.agg #[.slice a n c]) l) (hl : l.length ≤ 10000) (hf : FineE l) :
    Calls Tryz.prog 79 #[.agg #[.slice a n c]] w fun e w' => e = .returned (.tuple #[.string (S (entText l)), .int .i64 0]) ∧ Below w.heap.size w w' := by
  obtain ⟨s0, e0, hs0⟩ := hv
  simp only [Value.agg.injEq, Array.mk.injEq, List.cons.injEq, and_true] at e0
  subst e0
  obtain ⟨a', c', e1, hs, -, -, -⟩ := hs0
  simp only [Value.slice.injEq] at e1
  obtain ⟨rfl, -, rfl⟩ := e1
  have HN := Lib.hid hn
  clear hn
  go_enter Tryz.func79, Tryz.ntmps79
  go_wp2_with fail
  go_loopw [14] (fun i wr => ∃ j : Nat, i = .int .i64 j ∧ j ≤ n ∧ IsB (w.heap.size + 1) (w.heap.size + 1) (Lib.byteCells (entText (l.take j))) wr ∧ Below w.heap.size w wr ∧ w.heap.size + 1 < wr.heap.size) (fun i _ => n - (intOf i).toNat)
  case atStart => exact ⟨0, rfl, Nat.zero_le _, by simpa [entText, Lib.byteCells] using Lib.fresh_isBuilder 200 5 (w.alloc (.cells #[.slice a n c] 99)), by go_grown, by simp⟩
  case round =>
    obtain ⟨j, rfl, hj, hI, hB, hz⟩ := hrel
    have hj0 : (0 : Int) ≤ (j : Int) := Int.natCast_nonneg _
    have HI := Lib.hid hI
    clear hI
    by_cases hjn : j < n
    · have hj1 : (j : Int) < (n : Int) := by omega
      have hjl : j < l.length := by have := HN.out; omega
      obtain ⟨b, off, rfl, hb, t0, t1⟩ := SlAt.cells2 hs j hjl
      have q0 := (cell_below hB hb _).trans t0
      have q1 := (cell_below hB hb _).trans t1
      obtain ⟨f1, f2, f3⟩ := hf _ (List.getElem_mem hjl)
      have hst := Lib.hid (entText_step hjl)
      clear t0 t1
      generalize l[j] = u at *
      have hjk := fun w => lendJoin_any u.key (by omega) w
      have hjv := fun w => lendJoin_any u.val (by omega) w
      have HJ := Lib.hid hjk
      have HJV := Lib.hid hjv
      clear hjk hjv
      go_wp2_with fail
      refine (thread (HJ.out _) wr.heap.size wr (by go_grown) (by go_grown)).mono ?_
      rintro e w1 ⟨rfl, hX1, hk1, -, -, hz1⟩
      have e1 : w1.cell? ⟨wr.heap.size, 1, none⟩ = some (.string (S u.val)) := (hk1 wr.heap.size 1 (by simp)).trans (by simp)
      clear hk1
      go_wp2_with fail
      refine (thread (HJV.out _) wr.heap.size wr hX1 hz1).mono ?_
      rintro e w2 ⟨rfl, hX2, -, -, -, hz2⟩
      have HI2 := Lib.hid (HI.out.on hX2)
      have hB2 := hB.trans (hX2.mono hB.size)
      have hk2 := joinT_len u.key
      have hv2 := joinT_len u.val
      have hlen : ¬ 9223372036854775807 < (joinT u.key).length + (joinT u.val).length := by omega
      have htl := entText_len (l.take j) (fun x hx => hf x (List.mem_of_mem_take hx))
      rw [List.length_take] at htl
      have HW := Lib.hid (bld_write (w.heap.size + 1) (w.heap.size + 1) _ (S (joinT u.key ++ joinT u.val)) w2 HI2.out (by rw [Lib.byteCells_length, S_size, List.length_append]; omega) (by have := hB2.size; omega))
      clear HI HJ HJV hX1 hX2 e1 hk2 hv2 htl
      go_wp2_with fail
      refine (HW.out).mono ?_
      rintro e w3 ⟨rfl, hI3, hX3⟩
      rw [strCells_S, ← byteCells_app, ← entBytes, ← hst.out] at hI3
      have hB3 := hB2.trans (hX3.mono (by omega))
      have hz3 : w.heap.size + 1 < w3.heap.size := by have := hX3.size; omega
      clear HW
      go_wp2_with fail
      go_roundw
      (case rel => exact (⟨j + 1, by go_num, by omega, hI3, hB3, hz3⟩))
      (case measure => first | (simp [intOf]; done) | (simp [intOf]; omega))
    · obtain rfl : j = n := by omega
      have hta : l.take j = l := by rw [HN.out, List.take_length]
      rw [hta] at HI
      clear hta
      go_wp2_with fail
      refine (bld_string (w.heap.size + 1) (w.heap.size + 1) (entText l) wr HI.out (by omega)).mono ?_
      rintro e w1 ⟨rfl, hX1⟩
      go_wp2_with fail
      go_ret2
      exact ⟨rfl, hB.trans (hX1.mono (by omega))⟩

end Go.Proofs.YtafciefjlkdecaaGreat

namespace Go.Proofs.YtafciefjlkdecaaGreat
open Go.RowKit

/-- An update's four cells, at the head of a block. -/
structure FourAt (W : World) (g : Nat) (X : Upd) : Prop where
  c0 : W.cell? ⟨g, 0, none⟩ = some (.int .u8 X.kind)
  c1 : W.cell? ⟨g, 1, none⟩ = some (.string (S X.key))
  c2 : W.cell? ⟨g, 2, none⟩ = some (.string (S X.val))
  c3 : W.cell? ⟨g, 3, none⟩ = some (.int .u64 X.delta)
section
variable {W w' : World} {g : Nat} {X : Upd}
theorem FourAt.lt (h : FourAt W g X) : g < W.heap.size := World.block_lt_of_cell? W _ h.c0
theorem FourAt.new (W : World) (X : Upd) (t : TypeId) (g : Nat) (hg : W.heap.size = g) : FourAt (W.alloc (.cells #[.int .u8 X.kind, .string (S X.key), .string (S X.val), .int .u64 X.delta] t)) g X := by
  subst hg
  exact ⟨by simp, by simp, by simp, by simp⟩
theorem FourAt.alloc (h : FourAt W g X) (o : Obj) : FourAt (W.alloc o) g X := ⟨cell_past o h.c0, cell_past o h.c1, cell_past o h.c2, cell_past o h.c3⟩
theorem FourAt.drew (h : FourAt W g X) : FourAt W.drew g X := ⟨h.c0, h.c1, h.c2, h.c3⟩
theorem FourAt.four (h : FourAt W g X) : W.cell? ⟨g, 0, none⟩ = some (.int .u8 X.kind) ∧ W.cell? ⟨g, 1, none⟩ = some (.string (S X.key)) ∧ W.cell? ⟨g, 2, none⟩ = some (.string (S X.val)) ∧ W.cell? ⟨g, 3, none⟩ = some (.int .u64 X.delta) := ⟨h.c0, h.c1, h.c2, h.c3⟩
theorem FourAt.grown (h : FourAt W g X) {r : Option Nat} (hg : W.grownBy w' r) (hne : r ≠ some g) : FourAt w' g X :=
  ⟨hg.cell h.c0 (fun e => hne e.symm), hg.cell h.c1 (fun e => hne e.symm), hg.cell h.c2 (fun e => hne e.symm), hg.cell h.c3 (fun e => hne e.symm)⟩
theorem FourAt.news (h : FourAt W g X) : ∀ j u, [Value.int .u8 X.kind, .string (S X.key), .string (S X.val), .int .u64 X.delta][j]? = some u → W.cell? ((⟨g, 0, none⟩ : Addr).add j) = some u := by
  intro j u hj
  match j, hj with
  | 0, hj => simp only [List.getElem?_cons_zero, Option.some.injEq] at hj; subst hj; exact h.c0
  | 1, hj => simp only [List.getElem?_cons_succ, List.getElem?_cons_zero, Option.some.injEq] at hj; subst hj; exact h.c1
  | 2, hj => simp only [List.getElem?_cons_succ, List.getElem?_cons_zero, Option.some.injEq] at hj; subst hj; exact h.c2
  | 3, hj => simp only [List.getElem?_cons_succ, List.getElem?_cons_zero, Option.some.injEq] at hj; subst hj; exact h.c3
end

/-- Rows of unlike types are apart. -/
theorem own_kinds {w : World} {B B' : Nat} {E E' : TypeId} {k k' n n' : Nat} {v v' : Value} {xs xs' : List Value} (h : w.ownsRow B E k v n xs) (h' : w.ownsRow B' E' k' v' n' xs') (hne : E ≠ E') : v.ownBlock = none ∨ v.ownBlock ≠ v'.ownBlock := by
  rcases ownsRow_open h with ⟨rfl, -, -⟩ | ⟨g, cap, cur, rfl, -, hr, -⟩
  · exact Or.inl rfl
  · refine Or.inr fun e => ?_
    rcases ownsRow_open h' with ⟨rfl, -, -⟩ | ⟨g', cap', cur', rfl, -, hr', -⟩
    · simp [Value.ownBlock] at e
    · simp only [Value.ownBlock, Option.some.injEq] at e
      subst e
      have := hr.symm.trans hr'
      simp at this
      exact hne this.2
/-- Two rows of a call's own, of unlike kinds, and two boxes that none of them writes. -/
structure Two (base p q : Nat) (X : Upd) (E1 E2 : TypeId) (W0 W : World) (A M : Value) (na nm : Nat) (xa xm : List Value) : Prop where
  own1 : W.ownsRow base E1 4 A na xa
  own2 : W.ownsRow base E2 4 M nm xm
  below : Below base W0 W
  le : base ≤ W.heap.size
  atP : FourAt W p X
  atQ : FourAt W q X
  far1 : A.ownBlock ≠ some p ∧ A.ownBlock ≠ some q
  far2 : M.ownBlock ≠ some p ∧ M.ownBlock ≠ some q
section
variable {base p q : Nat} {X : Upd} {E1 E2 : TypeId} {W0 W : World} {A M : Value} {na nm : Nat} {xa xm : List Value}
theorem Two.alloc (h : Two base p q X E1 E2 W0 W A M na nm xa xm) (o : Obj) : Two base p q X E1 E2 W0 (W.alloc o) A M na nm xa xm :=
  ⟨h.own1.alloc o, h.own2.alloc o, h.below.alloc h.le o, by have := h.le; simp; omega, h.atP.alloc o, h.atQ.alloc o, h.far1, h.far2⟩
theorem Two.drew (h : Two base p q X E1 E2 W0 W A M na nm xa xm) : Two base p q X E1 E2 W0 W.drew A M na nm xa xm :=
  ⟨h.own1.drew, h.own2.drew, below_drew' h.below, h.le, h.atP.drew, h.atQ.drew, h.far1, h.far2⟩
theorem Two.held (h : Two base p q X E1 E2 W0 W A M na nm xa xm) : W.cell? ⟨p, 0, none⟩ = some (.int .u8 X.kind) ∧ W.cell? ⟨p, 1, none⟩ = some (.string (S X.key)) ∧ W.cell? ⟨p, 2, none⟩ = some (.string (S X.val)) ∧ W.cell? ⟨p, 3, none⟩ = some (.int .u64 X.delta) ∧
    W.cell? ⟨q, 0, none⟩ = some (.int .u8 X.kind) ∧ W.cell? ⟨q, 1, none⟩ = some (.string (S X.key)) ∧ W.cell? ⟨q, 2, none⟩ = some (.string (S X.val)) ∧ W.cell? ⟨q, 3, none⟩ = some (.int .u64 X.delta) :=
  ⟨h.atP.c0, h.atP.c1, h.atP.c2, h.atP.c3, h.atQ.c0, h.atQ.c1, h.atQ.c2, h.atQ.c3⟩
theorem Two.app1 (hE : E1 ≠ E2) (h : Two base p q X E1 E2 W0 W A M na nm xa xm) {v' : Value} {w' : World} {n' : Nat} {x' : List Value} (ho : w'.ownsRow base E1 4 v' n' x') (hg : W.grownBy w' A.ownBlock) (hb : v'.ownBlock = A.ownBlock ∨ v'.ownBlock = some W.heap.size) : Two base p q X E1 E2 W0 w' v' M n' nm x' xm := by
  have hp := h.atP.lt
  have hq := h.atQ.lt
  refine ⟨ho, h.own2.kept hg (own_kinds h.own2 h.own1 (fun e => hE e.symm)), below_grown h.below hg (fun k e => (h.own1.lt k e).1) h.le, Nat.le_trans h.le hg.size, h.atP.grown hg h.far1.1, h.atQ.grown hg h.far1.2, ⟨fun e => ?_, fun e => ?_⟩, h.far2⟩
  · rcases hb with hb | hb
    · exact h.far1.1 (hb.symm.trans e)
    · rw [hb] at e; injection e with e; omega
  · rcases hb with hb | hb
    · exact h.far1.2 (hb.symm.trans e)
    · rw [hb] at e; injection e with e; omega
theorem Two.app2 (hE : E1 ≠ E2) (h : Two base p q X E1 E2 W0 W A M na nm xa xm) {v' : Value} {w' : World} {n' : Nat} {x' : List Value} (ho : w'.ownsRow base E2 4 v' n' x') (hg : W.grownBy w' M.ownBlock) (hb : v'.ownBlock = M.ownBlock ∨ v'.ownBlock = some W.heap.size) : Two base p q X E1 E2 W0 w' A v' na n' xa x' := by
  have hp := h.atP.lt
  have hq := h.atQ.lt
  refine ⟨h.own1.kept hg (own_kinds h.own1 h.own2 hE), ho, below_grown h.below hg (fun k e => (h.own2.lt k e).1) h.le, Nat.le_trans h.le hg.size, h.atP.grown hg h.far2.1, h.atQ.grown hg h.far2.2, h.far1, ⟨fun e => ?_, fun e => ?_⟩⟩
  · rcases hb with hb | hb
    · exact h.far2.1 (hb.symm.trans e)
    · rw [hb] at e; injection e with e; omega
  · rcases hb with hb | hb
    · exact h.far2.2 (hb.symm.trans e)
    · rw [hb] at e; injection e with e; omega
end

end Go.Proofs.YtafciefjlkdecaaGreat

namespace Go.Proofs.YtafciefjlkdecaaGreat
open Go.RowKit

theorem withL_tm {l : List Upd} (hr : Rising Upd.key l) (hf : ∀ x ∈ l, Tm x) (u : Upd) (hu : Tm u) : ∀ x ∈ withL l u, Tm x := by
  cases h : hasKey Upd.key l u.key with
  | false =>
    rw [withL_new h]
    intro x hx
    rcases insU_mem.1 hx with rfl | hx
    · exact hu
    · exact hf x hx
  | true =>
    obtain ⟨i, hi, hk, e⟩ := withL_old hr h
    rw [e]
    intro x hx
    rcases List.mem_or_eq_of_mem_set hx with hx | rfl
    · exact hf x hx
    · exact joinL_tm (hf _ (List.getElem_mem hi)) hu
theorem tm_fine {l : List Upd} (hf : ∀ x ∈ l, Tm x) : Fine l := fun x hx => ⟨(hf x hx).wf, by have := (hf x hx).vlen; omega⟩
theorem tm_empty {l : List Upd} (hf : ∀ x ∈ l, Tm x) : hasKey Upd.key l [] = false := by
  rw [Bool.eq_false_iff]
  intro h
  obtain ⟨x, hx, e⟩ := hasKey_iff.1 h
  have := (hf x hx).kpos
  rw [e] at this
  exact absurd this (by simp)

/-- Two values whose rows are not the same. -/
def ApartV (a b : Value) : Prop := ∀ k, a.ownBlock = some k → b.ownBlock ≠ some k
theorem ApartV.symm {a b : Value} (h : ApartV a b) : ApartV b a := fun k e e' => h k e' e
theorem ApartV.keep {a b : Value} (h : ApartV a b) : b.ownBlock = none ∨ b.ownBlock ≠ a.ownBlock := by
  cases hb : b.ownBlock with
  | none => exact Or.inl rfl
  | some k => exact Or.inr fun e => h k e.symm hb
/-- Two rows of a call's own, of one kind, that are apart. -/
structure TwoR (base : Nat) (E : TypeId) (W0 W : World) (A M : Value) (na nm : Nat) (xa xm : List Value) : Prop where
  own1 : W.ownsRow base E 4 A na xa
  own2 : W.ownsRow base E 4 M nm xm
  below : Below base W0 W
  le : base ≤ W.heap.size
  apart : ApartV A M
section
variable {base : Nat} {E : TypeId} {W0 W w' : World} {A M : Value} {na nm : Nat} {xa xm : List Value}
theorem TwoR.on (h : TwoR base E W0 W A M na nm xa xm) (hb : Below W.heap.size W w') : TwoR base E W0 w' A M na nm xa xm :=
  ⟨own_below h.own1 hb, own_below h.own2 hb, h.below.trans (hb.mono h.le), Nat.le_trans h.le hb.size, h.apart⟩
theorem TwoR.symm (h : TwoR base E W0 W A M na nm xa xm) : TwoR base E W0 W M A nm na xm xa :=
  ⟨h.own2, h.own1, h.below, h.le, h.apart.symm⟩
theorem TwoR.app (h : TwoR base E W0 W A M na nm xa xm) {v' : Value} {n' : Nat} {x' : List Value} (ho : w'.ownsRow base E 4 v' n' x') (hg : W.grownBy w' A.ownBlock) (hb : v'.ownBlock = A.ownBlock ∨ v'.ownBlock = some W.heap.size) : TwoR base E W0 w' v' M n' nm x' xm := by
  refine ⟨ho, h.own2.kept hg h.apart.keep, below_grown h.below hg (fun k e => (h.own1.lt k e).1) h.le, Nat.le_trans h.le hg.size, fun k e e' => ?_⟩
  rcases hb with hb | hb
  · exact h.apart k (hb.symm.trans e) e'
  · rw [hb] at e
    injection e with e
    have := (h.own2.lt k e').2
    omega
end
/-- What Cut has put into both rows: the ones ahead. -/
theorem filter_take {α : Type} (p : α → Bool) (l : List α) (j : Nat) (hj : j < l.length) : (l.take (j + 1)).filter p = if p l[j] then (l.take j).filter p ++ [l[j]] else (l.take j).filter p := by
  rw [List.take_succ_eq_append_getElem hj, List.filter_append]
  cases h : p l[j] <;> simp [h]
theorem filter_le {α : Type} (p : α → Bool) (l : List α) (j : Nat) : ((l.take j).filter p).length ≤ l.length := by
  refine Nat.le_trans (List.length_filter_le _ _) ?_
  rw [List.length_take]; omega

end Go.Proofs.YtafciefjlkdecaaGreat

namespace Go.Proofs.YtafciefjlkdecaaGreat
open Go.RowKit

/-- What was put of a key. -/
def grp (us : List Upd) (k : List UInt8) : List Upd := us.filter fun u => u.key == k
theorem grp_nil (k : List UInt8) : grp [] k = [] := rfl
theorem grp_same (us : List Upd) (u : Upd) : grp (us ++ [u]) u.key = grp us u.key ++ [u] := by
  unfold grp; rw [List.filter_append]; simp
theorem grp_other (us : List Upd) (u : Upd) {k : List UInt8} (h : k ≠ u.key) : grp (us ++ [u]) k = grp us k := by
  unfold grp
  rw [List.filter_append, List.filter_cons_of_neg (by simpa using fun e : u.key = k => h e.symm)]; simp
theorem grp_len (us : List Upd) (k : List UInt8) : (grp us k).length ≤ us.length := List.length_filter_le _ _
theorem grp_mem {us : List Upd} {k : List UInt8} {x : Upd} (h : x ∈ grp us k) : x ∈ us ∧ x.key = k := by
  unfold grp at h
  obtain ⟨h1, h2⟩ := List.mem_filter.1 h
  exact ⟨h1, by simpa using h2⟩
/-- All of them joined. -/
def joinAll : List Upd → Option Upd := fun l => l.foldl (fun o u => some (match o with | none => u | some f => joinL f u)) none
theorem joinAll_snoc (l : List Upd) (u : Upd) : joinAll (l ++ [u]) = some (match joinAll l with | none => u | some f => joinL f u) := by
  unfold joinAll; rw [List.foldl_append]; rfl
theorem joinAll_nil : joinAll [] = none := rfl

theorem getL_iff {l : List Upd} (hr : Rising Upd.key l) (k : List UInt8) (x : Upd) : getL l k = some x ↔ x ∈ l ∧ x.key = k := by
  unfold getL
  constructor
  · intro h
    have h1 := List.mem_of_find?_eq_some h
    have h2 := List.find?_some h
    exact ⟨h1, by simpa using h2⟩
  · rintro ⟨h1, h2⟩
    cases hf : l.find? (fun u => u.key == k) with
    | none =>
      rw [List.find?_eq_none] at hf
      exact absurd h2 (by simpa using hf x h1)
    | some y =>
      have hy1 := List.mem_of_find?_eq_some hf
      have hy2 : y.key = k := by simpa using List.find?_some hf
      have : x = y := by
        obtain ⟨i, hi, rfl⟩ := List.getElem_of_mem h1
        obtain ⟨j, hj, rfl⟩ := List.getElem_of_mem hy1
        rcases Nat.lt_trichotomy i j with h | h | h
        · have := hr.lt h hj
          rw [h2, hy2] at this
          rw [bl_irrefl] at this; exact absurd this (by simp)
        · subst h; rfl
        · have := hr.lt h hi
          rw [h2, hy2] at this
          rw [bl_irrefl] at this; exact absurd this (by simp)
      rw [this]
theorem getL_with {l : List Upd} (hr : Rising Upd.key l) (u : Upd) : getL (withL l u) u.key = some (match getL l u.key with | none => u | some f => joinL f u) := by
  rw [getL_iff (withL_rising hr u)]
  cases hh : hasKey Upd.key l u.key with
  | false =>
    rw [getL_none hh, withL_new hh]
    exact ⟨insU_mem.2 (Or.inl rfl), rfl⟩
  | true =>
    obtain ⟨i, hi, hk, e⟩ := withL_old hr hh
    have hg : getL l u.key = some l[i] := (getL_iff hr _ _).2 ⟨List.getElem_mem hi, hk⟩
    rw [hg, e]
    refine ⟨?_, joinL_key _ _⟩
    exact List.mem_set hi _
theorem getL_with_other {l : List Upd} (hr : Rising Upd.key l) (u : Upd) {k : List UInt8} (h : k ≠ u.key) : getL (withL l u) k = getL l k := by
  have key : ∀ x, getL (withL l u) k = some x ↔ getL l k = some x := by
    intro x
    rw [getL_iff (withL_rising hr u), getL_iff hr]
    cases hh : hasKey Upd.key l u.key with
    | false =>
      rw [withL_new hh, insU_mem]
      constructor
      · rintro ⟨rfl | h1, h2⟩
        · exact absurd h2.symm h
        · exact ⟨h1, h2⟩
      · rintro ⟨h1, h2⟩; exact ⟨Or.inr h1, h2⟩
    | true =>
      obtain ⟨i, hi, hk, e⟩ := withL_old hr hh
      rw [e]
      constructor
      · rintro ⟨h1, h2⟩
        rcases List.mem_or_eq_of_mem_set h1 with h1 | rfl
        · exact ⟨h1, h2⟩
        · rw [joinL_key] at h2; exact absurd h2.symm h
      · rintro ⟨h1, h2⟩
        refine ⟨?_, h2⟩
        obtain ⟨j, hj, rfl⟩ := List.getElem_of_mem h1
        have hij : i ≠ j := fun e => by subst e; exact h (h2.symm.trans hk)
        have hs : (l.set i (joinL l[i] u))[j]'(by rw [List.length_set]; exact hj) = l[j] := by rw [List.getElem_set_ne hij]
        rw [← hs]
        exact List.getElem_mem _
  cases hg : getL l k with
  | none =>
    cases hg2 : getL (withL l u) k with
    | none => rfl
    | some x => have := (key x).1 hg2; rw [hg] at this; exact absurd this (by simp)
  | some x => exact (key x).2 hg
/-- The waiting message. -/
theorem getL_all : ∀ (us : List Upd), (∀ u ∈ us, Tm u) → ∀ k, getL (withAll us) k = joinAll (grp us k) := by
  intro us
  induction us using snoc_ind with
  | h0 => intro _ k; rfl
  | h1 us u ih =>
    intro h k
    have h0 := ih (fun x hx => h x (by simp [hx]))
    have hr := (withAll_ok us (fun x hx => tm_fine (fun y hy => h y (by simp [hy])) x hx)).1
    rw [withAll_snoc]
    by_cases hk : k = u.key
    · subst hk
      rw [getL_with hr, h0, grp_same, joinAll_snoc]
    · rw [getL_with_other hr u hk, h0, grp_other us u hk]
theorem joinAll_tm : ∀ (l : List Upd), (∀ u ∈ l, Tm u) → ∀ x, joinAll l = some x → Tm x := by
  intro l
  induction l using snoc_ind with
  | h0 => intro _ x hx; simp [joinAll] at hx
  | h1 us u ih =>
    intro h x hx
    have h0 := ih (fun x hx => h x (by simp [hx]))
    rw [joinAll_snoc] at hx
    have hx' := (Option.some.inj hx).symm
    subst hx'
    cases hj : joinAll us with
    | none => exact h u (by simp)
    | some f => exact joinL_tm (h0 f hj) (h u (by simp))
/-- On, of a value that is there or not. -/
theorem onL_there (v : List UInt8) (th : Bool) (u : Upd) : onL (if th then v else []) th u = onL v th u := by
  cases th with
  | true => rfl
  | false => unfold onL; simp
theorem numL_le8 (n : Nat) : numL (le (n % 18446744073709551616) 8) = n % 18446744073709551616 := by
  rw [numL_le, show (256 : Nat) ^ 8 = 18446744073709551616 from by decide]
  exact Nat.mod_mod _ _
/-- One behind the other is their join. -/
theorem onL_join {f t : Upd} (hf : Tm f) (ht : Tm t) (v : List UInt8) (th : Bool) : onL v th (joinL f t) = onL (onL v th f).1 (onL v th f).2 t := by
  rcases ht.kind with h | h | h
  · rw [joinL_not f t (by omega), onL_put _ _ t h, onL_put _ _ t h]
  · rw [joinL_not f t (by omega), onL_del _ _ t h, onL_del _ _ t h]
  · rcases hf.kind with k | k | k
    · rw [onL_put v th f k]
      by_cases h8 : f.val.length = 8
      · rw [joinL_num h k h8, onL_put _ _ _ rfl, onL_add8 _ t h h8]
      · rw [joinL_one h k h8, onL_put _ _ _ rfl, onL_add _ t h h8]
    · rw [onL_del v th f k, joinL_two h k, onL_put _ _ _ rfl, onL_add0 _ t h]
    · rw [joinL_add f t h k]
      cases th with
      | false =>
        rw [onL_add0 _ _ rfl, onL_add0 _ f k, onL_add8 _ t h (le_length _ _), numL_le8]
        simp only [Prod.mk.injEq, and_true]
        congr 1
        omega
      | true =>
        by_cases h8 : v.length = 8
        · rw [onL_add8 _ _ rfl h8, onL_add8 _ f k h8, onL_add8 _ t h (le_length _ _), numL_le8]
          simp only [Prod.mk.injEq, and_true]
          congr 1
          omega
        · rw [onL_add _ _ rfl h8, onL_add _ f k h8, onL_add _ t h h8]
/-- All of them, one behind the other. -/
def onAllL (v : List UInt8) (th : Bool) (l : List Upd) : List UInt8 × Bool := l.foldl (fun s u => onL s.1 s.2 u) (v, th)
theorem onAllL_snoc (v : List UInt8) (th : Bool) (l : List Upd) (u : Upd) : onAllL v th (l ++ [u]) = onL (onAllL v th l).1 (onAllL v th l).2 u := by
  unfold onAllL; rw [List.foldl_append]; rfl
theorem onAllL_join : ∀ (l : List Upd), (∀ u ∈ l, Tm u) → ∀ x, joinAll l = some x → ∀ v th, onAllL v th l = onL v th x := by
  intro l
  induction l using snoc_ind with
  | h0 => intro _ x hx; simp [joinAll] at hx
  | h1 us u ih =>
    intro h x hx v th
    have h0 := ih (fun x hx => h x (by simp [hx]))
    rw [joinAll_snoc] at hx
    have hx' := (Option.some.inj hx).symm
    subst hx'
    rw [onAllL_snoc]
    cases hj : joinAll us with
    | none =>
      have : us = [] := by
        rcases List.eq_nil_or_concat us with e | ⟨l', a, e⟩
        · exact e
        · rw [e, List.concat_eq_append, joinAll_snoc] at hj; exact absurd hj (by simp)
      subst this
      rfl
    | some f =>
      rw [h0 f hj, onL_join (joinAll_tm us (fun x hx => h x (by simp [hx])) f hj) (h u (by simp))]
theorem onAllL_len (v : List UInt8) (th : Bool) (hv : v.length ≤ 20) : ∀ (l : List Upd), (∀ u ∈ l, Tm u) → (onAllL v th l).1.length ≤ 20 := by
  intro l
  induction l using snoc_ind with
  | h0 => intro _; exact hv
  | h1 us u ih =>
    intro h
    rw [onAllL_snoc]
    exact onL_len _ _ _ 20 (ih (fun x hx => h x (by simp [hx]))) (h u (by simp)).vlen (by decide)

end Go.Proofs.YtafciefjlkdecaaGreat

namespace Go.Proofs.YtafciefjlkdecaaGreat
open Go.RowKit
attribute [local go_sem ↓] Go.wp_at_zero Go.wp_at_succ

theorem onAllL_step (v : List UInt8) (th : Bool) (l : List Upd) (j : Nat) (hj : j < l.length) : onAllL v th (l.take (j + 1)) = onL (onAllL v th (l.take j)).1 (onAllL v th (l.take j)).2 l[j] := by
  rw [List.take_succ_eq_append_getElem hj, onAllL_snoc]

set_option maxRecDepth 100000 in
set_option maxHeartbeats 4000000 in
theorem msgAll_any (v : List UInt8) (th : Bool) (a : Option Addr) (n c : Nat) (l : List Upd) (w : World) (hn : n = l.length) (hs : SlAt Upd.cells 4 w a l) (hl : l.length ≤ 1000) (hf : ∀ u ∈ l, Tm u) (hv : v.length ≤ 20) :
    Calls Tryz.prog 53 #[.string (S v), .bool th, .slice a n c] w fun e w' => e = .returned (.tuple #[.string (S (onAllL (if th then v else []) th l).1), .bool (onAllL (if th then v else []) th l).2]) ∧ Below w.heap.size w w' := by
  have HN := Lib.hid hn
  have HF := Lib.hid hf
  have HS := Lib.hid hs
  have hv0 : ∀ j, (onAllL (if th then v else []) th (l.take j)).1.length ≤ 20 := fun j => onAllL_len _ th (by split <;> simp [hv]) _ (fun u hu => hf u (List.mem_of_mem_take hu))
  have HV := Lib.hid hv0
  have HST := Lib.hid (fun j hj => onAllL_step (if th then v else []) th l j hj)
  have hfin : l.take l.length = l := List.take_length
  have HFIN := Lib.hid hfin
  have h0 : onAllL (if th then v else []) th (l.take 0) = (if th then v else [], th) := rfl
  clear hn hf hs hv0 hv hfin
  generalize hG : (fun j => onAllL (if th then v else []) th (l.take j)) = G
  have HG := Lib.hid (fun j => congrFun hG j)
  have hend : onAllL (if th then v else []) th l = G l.length := by rw [← HG.out]; show _ = onAllL _ th (l.take l.length); rw [HFIN.out]
  rw [hend]
  have hst0 : G 0 = (if th then v else [], th) := by rw [← HG.out]; exact h0
  have HST2 := Lib.hid (fun j hj => (by have := HST.out j hj; rw [show onAllL (if th then v else []) th (l.take (j + 1)) = G (j + 1) from HG.out (j + 1), show onAllL (if th then v else []) th (l.take j) = G j from HG.out j] at this; exact this : G (j + 1) = onL (G j).1 (G j).2 (l[j]'hj)))
  have HV2 := Lib.hid (fun j => (by have := HV.out j; rw [show onAllL (if th then v else []) th (l.take j) = G j from HG.out j] at this; exact this : (G j).1.length ≤ 20))
  clear hG HG hend HST HV h0 HFIN
  cases th with
  | true =>
    have HS0 := Lib.hid hst0
    clear hst0
    go_enter Tryz.func53, Tryz.ntmps53
    go_wp2_with fail
    go_loopw [14, 0, 1] (fun i vv tv wr => ∃ j : Nat, i = .int .i64 j ∧ j ≤ n ∧ vv = .string (S (G j).1) ∧ tv = .bool (G j).2 ∧ Below w.heap.size w wr) (fun i _ _ _ => n - (intOf i).toNat)
    case atStart => exact ⟨0, rfl, Nat.zero_le _, by rw [HS0.out]; rfl, by rw [HS0.out], Below.refl _ _⟩
    case round =>
      obtain ⟨j, rfl, hj, rfl, rfl, hB⟩ := hrel
      have hj0 : (0 : Int) ≤ (j : Int) := Int.natCast_nonneg _
      have hgl := HV2.out j
      by_cases hjn : j < n
      · have hj1 : (j : Int) < (n : Int) := by omega
        have hjl : j < l.length := by have := HN.out; omega
        obtain ⟨b, off, rfl, hb, t0, t1, t2, t3⟩ := SlAt.cells4 HS.out j hjl
        have q0 := (cell_below hB hb _).trans t0
        have q1 := (cell_below hB hb _).trans t1
        have q2 := (cell_below hB hb _).trans t2
        have q3 := (cell_below hB hb _).trans t3
        have hT := HF.out _ (List.getElem_mem hjl)
        have HGS := Lib.hid (HST2.out j hjl)
        clear t0 t1 t2 t3
        generalize l[j] = u at *
        generalize hg : G j = g at *
        have HG1 := Lib.hid hg
        clear hg
        go_wp2_with fail
        refine (thread (on_any g.1 g.2 u.kind u.key u.val u.delta (by omega) hT.wf.1 hT.wf.2 _) wr.heap.size wr (by go_grown) (by go_grown)).mono ?_
        rintro e w1 ⟨rfl, hX1, -, -, -, hz1⟩
        have hB1 := hB.trans (hX1.mono hB.size)
        unfold onV
        go_wp2_with fail
        go_roundw
        (case rel => exact ⟨j + 1, by go_num, by omega, by rw [HGS.out], by rw [HGS.out], hB1⟩)
        (case measure => first | (simp [intOf]; done) | (simp [intOf]; omega))
      · obtain rfl : j = n := by omega
        go_wp2_with fail
        go_ret2
        exact ⟨by rw [HN.out]; rfl, hB⟩
  | false =>
    have HS0 := Lib.hid hst0
    clear hst0
    go_enter Tryz.func53, Tryz.ntmps53
    go_wp2_with fail
    go_loopw [14, 0, 1] (fun i vv tv wr => ∃ j : Nat, i = .int .i64 j ∧ j ≤ n ∧ vv = .string (S (G j).1) ∧ tv = .bool (G j).2 ∧ Below w.heap.size w wr) (fun i _ _ _ => n - (intOf i).toNat)
    case atStart => exact ⟨0, rfl, Nat.zero_le _, by rw [HS0.out]; rfl, by rw [HS0.out], Below.refl _ _⟩
    case round =>
      obtain ⟨j, rfl, hj, rfl, rfl, hB⟩ := hrel
      have hj0 : (0 : Int) ≤ (j : Int) := Int.natCast_nonneg _
      have hgl := HV2.out j
      by_cases hjn : j < n
      · have hj1 : (j : Int) < (n : Int) := by omega
        have hjl : j < l.length := by have := HN.out; omega
        obtain ⟨b, off, rfl, hb, t0, t1, t2, t3⟩ := SlAt.cells4 HS.out j hjl
        have q0 := (cell_below hB hb _).trans t0
        have q1 := (cell_below hB hb _).trans t1
        have q2 := (cell_below hB hb _).trans t2
        have q3 := (cell_below hB hb _).trans t3
        have hT := HF.out _ (List.getElem_mem hjl)
        have HGS := Lib.hid (HST2.out j hjl)
        clear t0 t1 t2 t3
        generalize l[j] = u at *
        generalize hg : G j = g at *
        have HG1 := Lib.hid hg
        clear hg
        go_wp2_with fail
        refine (thread (on_any g.1 g.2 u.kind u.key u.val u.delta (by omega) hT.wf.1 hT.wf.2 _) wr.heap.size wr (by go_grown) (by go_grown)).mono ?_
        rintro e w1 ⟨rfl, hX1, -, -, -, hz1⟩
        have hB1 := hB.trans (hX1.mono hB.size)
        unfold onV
        go_wp2_with fail
        go_roundw
        (case rel => exact ⟨j + 1, by go_num, by omega, by rw [HGS.out], by rw [HGS.out], hB1⟩)
        (case measure => first | (simp [intOf]; done) | (simp [intOf]; omega))
      · obtain rfl : j = n := by omega
        go_wp2_with fail
        go_ret2
        exact ⟨by rw [HN.out]; rfl, hB⟩

end Go.Proofs.YtafciefjlkdecaaGreat

namespace Go.Proofs.YtafciefjlkdecaaGreat.PlanL

/-- May a plan be? -/
def right (F B L : Int) : Bool := decide (3 ≤ F ∧ F ≤ 16 ∧ F ≤ B ∧ B ≤ 64 ∧ 2 ≤ L ∧ L ≤ 64)
/-- May a size be? -/
def sized (n : Int) : Bool := decide (128 ≤ n ∧ n ≤ 1024)
/-- The room of a size's block. -/
def room (n : Int) : Int := if 128 ≤ n ∧ n ≤ 1024 then n - 24 else 0
def nodeBytes (F B L : Int) : Int := if right F B L = true then 1 + 33 * F + 51 * B else 0
def leafBytes (F B L : Int) : Int := if right F B L = true then 50 * L else 0
def least (F B L : Int) : Int := if right F B L = true then B / F else 0
/-- The answer of a plan's check. -/
def check (F B L n : Int) : Int :=
  if right F B L = false ∨ n < 128 ∨ 1024 < n then 2
  else if n - 24 < 1 + 33 * F + 51 * B ∨ n - 24 < 50 * L then 20 else 0

theorem right_iff (F B L : Int) : right F B L = true ↔ (3 ≤ F ∧ F ≤ 16 ∧ F ≤ B ∧ B ≤ 64 ∧ 2 ≤ L ∧ L ≤ 64) := by simp [right]
theorem right_not (F B L : Int) : right F B L = false ↔ ¬ (3 ≤ F ∧ F ≤ 16 ∧ F ≤ B ∧ B ≤ 64 ∧ 2 ≤ L ∧ L ≤ 64) := by
  unfold right; exact decide_eq_false_iff_not

/-- The best buffer and leaf of a size and a fanout. -/
def bB (n F : Int) : Int := if 64 ≤ (n - 24 - 1 - F * 33) / 51 then 64 else (n - 24 - 1 - F * 33) / 51
def bL (n : Int) : Int := if 64 ≤ (n - 24) / 50 then 64 else (n - 24) / 50
/-- The best plan, and its error. -/
def best (n F : Int) : Int × Int × Int × Int :=
  if n < 128 ∨ 1024 < n ∨ F < 3 ∨ 16 < F then (0, 0, 0, 2)
  else if check F (bB n F) (bL n) n = 0 then (F, bB n F, bL n, 0) else (0, 0, 0, 20)

theorem check_zero (F B L n : Int) : check F B L n = 0 ↔ 3 ≤ F ∧ F ≤ 16 ∧ F ≤ B ∧ B ≤ 64 ∧ 2 ≤ L ∧ L ≤ 64 ∧ 128 ≤ n ∧ n ≤ 1024 ∧ 1 + 33 * F + 51 * B ≤ n - 24 ∧ 50 * L ≤ n - 24 := by
  unfold check
  by_cases h : right F B L = true
  · have hb := (right_iff F B L).1 h
    by_cases hn : n < 128 ∨ 1024 < n
    · rw [if_pos (by omega)]; omega
    · rw [if_neg (by rw [h]; simp; omega)]
      by_cases hk : n - 24 < 1 + 33 * F + 51 * B ∨ n - 24 < 50 * L
      · rw [if_pos hk]; omega
      · rw [if_neg hk]; omega
  · have hf : right F B L = false := by simpa using h
    have hb := (right_not F B L).1 hf
    rw [if_pos (Or.inl hf)]; omega
theorem check_cases (F B L n : Int) : check F B L n = 0 ∨ check F B L n = 2 ∨ check F B L n = 20 := by
  unfold check; split
  · simp
  · split <;> simp
/-- What has more has no room. -/
theorem best_more (n F b l : Int) (h : check F b l n = 0) : b ≤ bB n F ∧ l ≤ bL n := by
  rw [check_zero] at h
  unfold bB bL
  constructor <;> split <;> omega
theorem best_some (n F b l : Int) (h : check F b l n = 0) : check F (bB n F) (bL n) n = 0 := by
  rw [check_zero] at h ⊢
  unfold bB bL
  refine ⟨by omega, by omega, ?_, ?_, ?_, ?_, by omega, by omega, ?_, ?_⟩ <;> split <;> omega

end Go.Proofs.YtafciefjlkdecaaGreat.PlanL
