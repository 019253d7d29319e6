/-
  The walk of rec.Parse.
-/
import Derived.Test.YtcjeonamebnpfaaPruF
namespace Go.Proofs.Ytcjeonamebnpfaa
open Go.RowKit
attribute [local go_sem ↓] Go.wp_at_zero Go.wp_at_succ

/-- Updates, and an error's number. -/
def RecRes (B : Nat) (E : TypeId) (p : List Upd × Nat) (e : Ending) (w' : World) : Prop :=
  ∃ a c, e = .returned (.tuple #[.slice a p.1.length c, .int .i64 p.2]) ∧ w'.ownsRow B E 4 (.slice a p.1.length c) p.1.length (cellsU p.1)
theorem RecRes.none (B : Nat) (E : TypeId) (n : Nat) (w' : World) (e : Ending) (he : e = .returned (.tuple #[.slice none 0 0, .int .i64 n])) : RecRes B E ([], n) e w' := ⟨Option.none, 0, he, World.ownsRow_nil _ _ _ _⟩
theorem recU_none {s : List UInt8} (h : rawU s = none) : recU s = ([], 4) := by simp [recU, h]
theorem recU_some {s : List UInt8} {l : List Upd} (h : rawU s = some l) : recU s = (l, 0) := by simp [recU, h]
theorem cell_four_at' (w : World) (b : Nat) (hb : w.heap.size = b) (x y z u : Value) (t : TypeId) : ∀ j v, [x, y, z, u][j]? = some v → (w.alloc (.cells #[x, y, z, u] t)).cell? ((⟨b, 0, none⟩ : Addr).add j) = some v := by
  subst hb
  exact cell_four_new w x y z u t

set_option maxRecDepth 100000 in
set_option maxHeartbeats 4000000 in
theorem recParse_any (s0 : List UInt8) (hl : s0.length ≤ 900000) (w : World) :
    Calls Try.prog 67 #[.string (S s0)] w fun e w' => RecRes w.heap.size 31 (recU s0) e w' ∧ Below w.heap.size w w' := by
  obtain ⟨i0, hi, iz0, iz1, iz2⟩ := info_parts infoU
  have HE0 := Lib.hid (fun h : rawU s0 = none => recU_none h)
  have HE1 := Lib.hid (fun (l : List Upd) (h : rawU s0 = some l) => recU_some h)
  generalize recU s0 = P at *
  go_enter Try.func67, Try.ntmps67
  go_wp2_with fail
  go_loopw [0, 4] (fun s v wr => ∃ (t : List UInt8) (acc : List Upd), s = .string (S t) ∧ t.length + acc.length ≤ s0.length ∧ Hid (rawU s0 = (rawU t).map fun l => acc ++ l) ∧ wr.ownsRow w.heap.size 31 4 v acc.length (cellsU acc) ∧ Below w.heap.size w wr) (fun s _ _ => match s with | .string x => x.size | _ => 0)
  case atStart => exact ⟨s0, [], rfl, by simp, Lib.hid (by simp), World.ownsRow_nil _ _ _ _, by go_grown⟩
  case round =>
    obtain ⟨t, acc, rfl, hlen, hR, hown, hB⟩ := hrel
    obtain ⟨av, ac, ea⟩ := own_form hown
    subst ea
    have HO := Lib.hid hown
    cases t with
    | nil =>
      have HP := Lib.hid (HE1.out acc (rawU_end hR.out))
      clear hown hR
      go_wp2_with fail
      refine bodyPost_ret (v := .tuple #[.slice av acc.length ac, .int .i64 0]) (by simp [results, Try.results67, go_sem]) rfl ⟨?_, hB⟩
      rw [HP.out]
      exact ⟨av, ac, rfl, HO.out⟩
    | cons b r =>
      have hl0 : (S (b :: r)).size = r.length + 1 := by rw [S_size]; rfl
      rw [List.length_cons] at hlen
      have hfa := fun W => first_any (b :: r) (by rw [List.length_cons]; omega) W
      clear hown
      cases hst : stepU (b :: r) with
      | none =>
        rw [hst] at hfa
        have HFA := Lib.hid hfa
        have HP := Lib.hid (HE0.out (rawU_stop hR.out (by simp) hst))
        clear hfa hst hR
        go_wp2_with fail
        refine (thread (HFA.out _) wr.heap.size wr (by go_grown) (by go_grown)).mono ?_
        rintro e w1 ⟨⟨x, y, rfl⟩, hX1, -, -, -, hz1⟩
        have hB1 := hB.trans (hX1.mono hB.size)
        have hz2 : w.heap.size ≤ w1.heap.size := hB1.size
        simp only [updV]
        clear hX1
        go_wp2_with fail
        refine bodyPost_ret (v := .tuple #[.slice none 0 0, .int .i64 4]) (by simp [results, Try.results67, go_sem]) rfl ⟨?_, hB1.alloc hz2 _⟩
        rw [HP.out]
        exact RecRes.none _ _ _ _ _ rfl
      | some p =>
        obtain ⟨u, m⟩ := p
        rw [hst] at hfa
        have HFA := Lib.hid (fun W => (hfa W).mono (fun e w' (h : FirstRes (some (u, m)) e ∧ Below W.heap.size W w') => (⟨h.1, h.2⟩ : e = .returned (.tuple #[.agg #[.int .u8 u.kind, .string (S u.key), .string (S u.val), .int .u64 u.delta], .string (S m), .bool true]) ∧ Below W.heap.size W w')))
        have HN := Lib.hid (rawU_more hR.out (by simp) hst)
        have hml := stepU_len hst
        rw [List.length_cons] at hml
        clear hfa hst hR
        go_wp2_with fail
        refine (thread (HFA.out _) wr.heap.size wr (by go_grown) (by go_grown)).mono ?_
        rintro e w1 ⟨rfl, hX1, -, -, -, hz1⟩
        have HO1 := Lib.hid (own_below HO.out hX1)
        have hB1 := hB.trans (hX1.mono hB.size)
        have hz := hB1.size
        clear hX1 HFA
        go_wp2_with (at_builtin; go_must (refine wpList_append_own_at _ rfl _ _ 24 rfl w.heap.size 31 i0 (.agg #[.int .u8 0, .string ByteArray.empty, .string ByteArray.empty, .int .u64 0]) 4 48 Try.underlying24 hi iz0 iz1 iz2 rfl (by decide) _ acc.length _ rfl ((HO1.out.alloc _).alloc _) ⟨w1.heap.size + 1, 0, none⟩ 1 1 [.int .u8 u.kind, .string (S u.key), .string (S u.val), .int .u64 u.delta] rfl rfl (cell_four_at' _ _ (by simp) _ _ _ _ _) (four_oneCell _ _ _ _) (by unfold maxLen; omega) (by omega) (by simp; omega) ?_; intro vz wz hownz hgrowz _ _))
        go_roundw
        (case rel => exact (⟨m, acc ++ [u], rfl, by rw [List.length_append, List.length_singleton]; omega, HN, by rw [cellsU_snoc, List.length_append, List.length_singleton]; exact hownz, below_grown ((hB1.alloc hz _).alloc (by simp; omega) _) hgrowz (fun k e => (HO1.out.lt k e).1) (by simp; omega)⟩))
        (case measure => simp [S_size]; omega)

end Go.Proofs.Ytcjeonamebnpfaa
