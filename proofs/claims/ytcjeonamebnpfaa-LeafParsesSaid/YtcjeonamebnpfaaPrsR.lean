/-
  The walk of the document's Parse of entries.
-/
import Derived.Test.YtcjeonamebnpfaaPrsP
import Derived.Test.YtcjeonamebnpfaaRgu
import Derived.Test.YtcjeonamebnpfaaRefM
namespace Go.Proofs.Ytcjeonamebnpfaa
open Go.RowKit
attribute [local go_sem ↓] Go.wp_at_zero Go.wp_at_succ

/-- Entries, and an error's number. -/
def ParRes (B : Nat) (p : List Ent × Nat) (e : Ending) (w' : World) : Prop :=
  ∃ a c, e = .returned (.tuple #[.slice a p.1.length c, .int .i64 p.2]) ∧ w'.ownsRow B 73 2 (.slice a p.1.length c) p.1.length (cellsE p.1)
theorem cell_two_at (w : World) (b : Nat) (hb : w.heap.size = b) (x y : Value) (t : TypeId) : ∀ j v, [x, y][j]? = some v → (w.alloc (.cells #[x, y] t)).cell? ((⟨b, 0, none⟩ : Addr).add j) = some v := by
  subst hb
  exact cell_two_new w x y t

set_option maxRecDepth 100000 in
set_option maxHeartbeats 4000000 in
theorem refParse_any (s0 : List UInt8) (hl : s0.length ≤ 1000000) (w : World) :
    Calls Try.prog 31 #[.string (S s0)] w fun e w' => ParRes w.heap.size (parseE s0) e w' ∧ Below w.heap.size w w' := by
  obtain ⟨i0, hi, iz0, iz1, iz2⟩ := info_parts infoR
  have HE0 := Lib.hid (fun h : rawE s0 = none => parseE_none h)
  have HE1 := Lib.hid (fun (l : List Ent) (h : rawE s0 = some l) => And.intro (parseE_bad h) (parseE_ok h))
  generalize parseE s0 = P at *
  go_enter Try.func31, Try.ntmps31
  go_wp2_with fail
  go_loopw [0, 4] (fun s v wr => ∃ (t : List UInt8) (acc : List Ent), s = .string (S t) ∧ t.length + acc.length ≤ s0.length ∧ Hid (rawE s0 = (rawE t).map fun l => acc ++ l) ∧ wr.ownsRow w.heap.size 73 2 v acc.length (cellsE acc) ∧ Below w.heap.size w wr) (fun s _ _ => match s with | .string x => x.size | _ => 0)
  case atStart => exact ⟨s0, [], rfl, by simp, Lib.hid (by simp), World.ownsRow_nil _ _ _ _, by go_grown⟩
  case round =>
    obtain ⟨t, acc, rfl, hlen, hR, hown, hB⟩ := hrel
    obtain ⟨av, ac, ea⟩ := own_form hown
    subst ea
    have HO := Lib.hid hown
    cases t with
    | nil =>
      have hraw := Lib.hid (raw_end hR.out)
      have hsl := SlE.of_row hown
      obtain ⟨x, y, ee, hsa, -⟩ := hsl.2
      simp only [Value.slice.injEq] at ee
      obtain ⟨rfl, -, rfl⟩ := ee
      have HR := Lib.hid (refRight_any av ac acc (rightB acc) (rightB_iff acc) wr (by omega) hsa)
      have HE := Lib.hid (HE1.out acc hraw.out)
      clear hown hsl hsa hraw hR
      cases hb : rightB acc with
      | false =>
        rw [hb] at HR
        have HP := Lib.hid (HE.out.1 hb)
        clear HE hb
        go_wp2_with fail
        refine (thread HR.out w.heap.size w hB hB.size).mono ?_
        rintro e w1 ⟨rfl, hB1, -, -, -, hz1⟩
        go_wp2_with fail
        refine bodyPost_ret (v := .tuple #[.slice none 0 0, .int .i64 4]) (by simp [results, Try.results31, go_sem]) rfl ⟨?_, hB1⟩
        rw [HP.out]
        exact ⟨none, 0, rfl, World.ownsRow_nil _ _ _ _⟩
      | true =>
        rw [hb] at HR
        have HP := Lib.hid (HE.out.2 hb)
        clear HE hb
        go_wp2_with fail
        refine (thread HR.out wr.heap.size wr (Below.refl _ _) (Nat.le_refl _)).mono ?_
        rintro e w1 ⟨rfl, hX1, -, -, -, hz1⟩
        have HO1 := Lib.hid (own_below HO.out hX1)
        have hB1 := hB.trans (hX1.mono hB.size)
        go_wp2_with fail
        refine bodyPost_ret (v := .tuple #[.slice av acc.length ac, .int .i64 0]) (by simp [results, Try.results31, go_sem]) rfl ⟨?_, hB1⟩
        rw [HP.out]
        exact ⟨av, ac, rfl, HO1.out⟩
    | cons b r =>
      have hl0 : (S (b :: r)).size = r.length + 1 := by rw [S_size]; rfl
      rw [List.length_cons] at hlen
      have hs1 := fun W => refSplit_any (b :: r) (by rw [List.length_cons]; omega) W
      unfold splitV at hs1
      have hq1 := splitL_len (b :: r)
      have hst : stepE (b :: r) = if (splitL (b :: r)).2.2 && (splitL (splitL (b :: r)).2.1).2.2 then some (⟨(splitL (b :: r)).1, (splitL (splitL (b :: r)).2.1).1⟩, (splitL (splitL (b :: r)).2.1).2.1) else none := rfl
      rw [List.length_cons] at hq1
      generalize splitL (b :: r) = p1 at *
      obtain ⟨k, rest, ok⟩ := p1
      dsimp only at hs1 hq1 hst
      have hs2 := fun W => refSplit_any rest (by omega) W
      unfold splitV at hs2
      have hq2 := splitL_len rest
      generalize splitL rest = p2 at *
      obtain ⟨v, more, is⟩ := p2
      dsimp only at hs2 hq2 hst
      obtain ⟨hq1, hq1'⟩ := hq1
      obtain ⟨hq2, hq2'⟩ := hq2
      have H1 := Lib.hid hs1
      have H2 := Lib.hid hs2
      clear hs1 hs2 hown
      by_cases hgo : ok = true ∧ is = true
      · obtain ⟨rfl, rfl⟩ := hgo
        have hstep : stepE (b :: r) = some (⟨k, v⟩, more) := by rw [hst]; rfl
        have HN := Lib.hid (raw_more hR.out (by simp) hstep)
        have hq3 := hq1' rfl
        clear hst hstep hq1' hq2' hR
        go_wp2_with fail
        refine (thread (H1.out _) wr.heap.size wr (by go_grown) (by go_grown)).mono ?_
        rintro e w1 ⟨rfl, hX1, -, -, -, hz1⟩
        have HO1 := Lib.hid (own_below HO.out hX1)
        have hB1 := hB.trans (hX1.mono hB.size)
        go_wp2_with fail
        refine (thread (H2.out _) w1.heap.size w1 (by go_grown) (by go_grown)).mono ?_
        rintro e w2 ⟨rfl, hX2, -, -, -, hz2⟩
        have HO2 := Lib.hid (own_below HO1.out hX2)
        have hB2 := hB1.trans (hX2.mono hB1.size)
        have hz := hB2.size
        clear H1 H2 hX1 hX2
        go_wp2_with (at_builtin; go_must (refine wpList_append_own_at _ rfl _ _ 70 rfl w.heap.size 73 i0 (.agg #[.string ByteArray.empty, .string ByteArray.empty]) 2 32 Try.underlying70 hi iz0 iz1 iz2 rfl (by decide) _ acc.length _ rfl (HO2.out.alloc _) ⟨w2.heap.size, 0, none⟩ 1 1 [.string (S k), .string (S v)] rfl rfl (cell_two_new _ _ _ _) (by simp [Value.oneCell']) (by unfold maxLen; omega) (by omega) (by simp; omega) ?_; intro vz wz hownz hgrowz _ _))
        go_roundw
        (case rel => exact (⟨more, acc ++ [⟨k, v⟩], rfl, by rw [List.length_append, List.length_singleton]; omega, HN, by rw [cellsE_append, cellsE_one, List.length_append, List.length_singleton]; exact hownz, below_grown (hB2.alloc hz _) hgrowz (fun k e => (HO2.out.lt k e).1) (by simp; omega)⟩))
        (case measure => simp [S_size]; omega)
      · have hno : (ok && is) = false := by
          cases ok <;> cases is <;> simp_all
        have hstep : stepE (b :: r) = none := by rw [hst, hno]; rfl
        have HP := Lib.hid (HE0.out (raw_stop hR.out (by simp) hstep))
        clear hst hstep hq1' hq2' hR hgo
        cases ok with
        | false =>
          clear hno
          go_wp2_with fail
          refine (thread (H1.out _) wr.heap.size wr (by go_grown) (by go_grown)).mono ?_
          rintro e w1 ⟨rfl, hX1, -, -, -, hz1⟩
          have hB1 := hB.trans (hX1.mono hB.size)
          go_wp2_with fail
          refine (thread (H2.out _) w1.heap.size w1 (by go_grown) (by go_grown)).mono ?_
          rintro e w2 ⟨rfl, hX2, -, -, -, hz2⟩
          have hB2 := hB1.trans (hX2.mono hB1.size)
          clear H1 H2 hX1 hX2
          go_wp2_with fail
          refine bodyPost_ret (v := .tuple #[.slice none 0 0, .int .i64 4]) (by simp [results, Try.results31, go_sem]) rfl ⟨?_, hB2⟩
          rw [HP.out]
          exact ⟨none, 0, rfl, World.ownsRow_nil _ _ _ _⟩
        | true =>
          obtain rfl : is = false := by simpa using hno
          clear hno
          go_wp2_with fail
          refine (thread (H1.out _) wr.heap.size wr (by go_grown) (by go_grown)).mono ?_
          rintro e w1 ⟨rfl, hX1, -, -, -, hz1⟩
          have hB1 := hB.trans (hX1.mono hB.size)
          go_wp2_with fail
          refine (thread (H2.out _) w1.heap.size w1 (by go_grown) (by go_grown)).mono ?_
          rintro e w2 ⟨rfl, hX2, -, -, -, hz2⟩
          have hB2 := hB1.trans (hX2.mono hB1.size)
          clear H1 H2 hX1 hX2
          go_wp2_with fail
          refine bodyPost_ret (v := .tuple #[.slice none 0 0, .int .i64 4]) (by simp [results, Try.results31, go_sem]) rfl ⟨?_, hB2⟩
          rw [HP.out]
          exact ⟨none, 0, rfl, World.ownsRow_nil _ _ _ _⟩

end Go.Proofs.Ytcjeonamebnpfaa
