/-
  The walk of the document's Join.
-/
import Derived.Test.YtcjeonamebnpfaaTmP
import Derived.Test.YtcjeonamebnpfaaRefG
import Derived.Test.YtcjeonamebnpfaaUAt
namespace Go.Proofs.Ytcjeonamebnpfaa
open Go.RowKit
attribute [local go_sem ↓] Go.wp_at_zero Go.wp_at_succ

theorem u64_comm (a b : Nat) : (a + b) % 18446744073709551616 = (b + a) % 18446744073709551616 := by rw [Nat.add_comm]

abbrev ub (k : Nat) (key val : List UInt8) (d : Nat) : Obj := .cells #[.int .u8 k, .string (S key), .string (S val), .int .u64 d] 32
/-- The four boxes of Join. -/
structure FourU (w W : World) (f t o : Upd) : Prop where
  a : UAt W w.heap.size f
  b : UAt W (w.heap.size + 1) t
  c : UAt W (w.heap.size + 1 + 1) ⟨0, [], [], 0⟩
  d : UAt W (w.heap.size + 1 + 1 + 1) o
theorem FourU.start (w : World) (f t : Upd) : FourU w ((((w.alloc (ub f.kind f.key f.val f.delta)).alloc (ub t.kind t.key t.val t.delta)).alloc (.cells #[.int .u8 0, .string ByteArray.empty, .string ByteArray.empty, .int .u64 0] 32)).alloc (.cells #[.int .u8 1, .string (S t.key), .string ByteArray.empty, .int .u64 0] 32)) f t ⟨1, t.key, [], 0⟩ :=
  ⟨(((UAt.full w _ rfl f _).alloc _).alloc _).alloc _, (((UAt.full _ _ (by simp) t _)).alloc _).alloc _, (UAt.full _ _ (by simp) ⟨0, [], [], 0⟩ _).alloc _, UAt.full _ _ (by simp) ⟨1, t.key, [], 0⟩ _⟩
theorem FourU.on {w W W' : World} {f t o : Upd} (h : FourU w W f t o) (hb : Below W.heap.size W W') : FourU w W' f t o := ⟨h.a.on hb h.a.lt, h.b.on hb h.b.lt, h.c.on hb h.c.lt, h.d.on hb h.d.lt⟩

set_option maxRecDepth 100000 in
set_option maxHeartbeats 8000000 in
theorem refJoin_any (fk : Nat) (fkey fval : List UInt8) (fd : Nat) (tk : Nat) (tkey tval : List UInt8) (td : Nat) (hf : Tm ⟨fk, fkey, fval, fd⟩) (ht : Tm ⟨tk, tkey, tval, td⟩) (w : World) :
    Calls Try.prog 63 #[.agg #[.int .u8 fk, .string (S fkey), .string (S fval), .int .u64 fd], .agg #[.int .u8 tk, .string (S tkey), .string (S tval), .int .u64 td]] w fun e w' => e = .returned (updV (joinL ⟨fk, fkey, fval, fd⟩ ⟨tk, tkey, tval, td⟩)) ∧ Below w.heap.size w w' := by
  have hfd : fd < 18446744073709551616 := hf.wf.2
  have htd : td < 18446744073709551616 := ht.wf.2
  have hfl : fval.length ≤ 20 := hf.vlen
  have hfk := hf.kind
  have htv := ht.val
  have hj0 := @joinL_not ⟨fk, fkey, fval, fd⟩ ⟨tk, tkey, tval, td⟩
  have hj1 := @joinL_num ⟨fk, fkey, fval, fd⟩ ⟨tk, tkey, tval, td⟩
  have hj2 := @joinL_one ⟨fk, fkey, fval, fd⟩ ⟨tk, tkey, tval, td⟩
  have hj3 := @joinL_two ⟨fk, fkey, fval, fd⟩ ⟨tk, tkey, tval, td⟩
  have hj4 := @joinL_add ⟨fk, fkey, fval, fd⟩ ⟨tk, tkey, tval, td⟩
  dsimp only at hfk htv hj0 hj1 hj2 hj3 hj4
  generalize joinL ⟨fk, fkey, fval, fd⟩ ⟨tk, tkey, tval, td⟩ = J at *
  clear hf ht
  by_cases h3 : tk = 3
  · subst h3
    have htv2 : tval = [] := htv.resolve_left (by decide)
    subst htv2
    clear hj0 htv
    rcases hfk with rfl | rfl | rfl
    · by_cases h8 : fval.length = 8
      · have HJ := Lib.hid (show updV J = .agg #[.int .u8 1, .string (S tkey), .string (S (le ((numL fval + td) % 18446744073709551616) 8)), .int .u64 0] by rw [hj1 rfl rfl h8]; rfl)
        have hg := Lib.hid (fun W => refGet_any fval (by omega) W)
        have hn8 := numL_64 h8
        have hb8 : ((fval.length : Int) == 8) = true := by simp [h8]
        have hp := Lib.hid (fun W => put_any ((numL fval + td) % 18446744073709551616) (Nat.mod_lt _ (by decide)) 8 (by decide) (by decide) W)
        have hsum := u64_sum (numL fval) td
        generalize (numL fval + td) % 18446744073709551616 = M at *
        generalize numL fval = N at *
        clear hj1 hj2 hj3 hj4 h8
        go_enter Try.func63, Try.ntmps63
        go_wp2_with fail
        refine (thread (hg.out _) _ _ (Below.refl _ _) (Nat.le_refl _)).mono ?_
        rintro e w1 ⟨rfl, hX1, -, -, -, hz1⟩
        have H1 := Lib.hid ((FourU.start w ⟨1, fkey, fval, fd⟩ ⟨3, tkey, [], td⟩).on hX1)
        have HB1 := Lib.hid (show Below w.heap.size w w1 from Below.trans (by go_grown) (hX1.mono (by simp; omega)))
        obtain ⟨⟨a0, a1, a2, a3, -, -⟩, ⟨b0, b1, b2, b3, -, -⟩, ⟨r0, r1, r2, r3, rf, -⟩, ⟨d0, d1, d2, d3, df, -⟩⟩ := H1.out
        have rf0 := rf 0
        have rf1 := rf 1
        have rf2 := rf 2
        have rf3 := rf 3
        have df0 := df 0
        have df2 := df 2
        have df3 := df 3
        dsimp only at a0 a1 a2 a3 b0 b1 b2 b3 r0 r1 r2 r3 d0 d1 d2 d3
        clear rf df
        have hlt1 := H1.out.d.lt
        clear hX1 hz1
        go_wp2_with fail
        refine (thread (hp.out _) w1.heap.size w1 (Below.refl _ _) (Nat.le_refl _)).mono ?_
        rintro e w2 ⟨rfl, hX2, -, -, -, hz2⟩
        clear a0 a1 a2 a3 b0 b1 b2 b3 r0 r1 r2 r3 d0 d1 d2 d3 rf0 rf1 rf2 rf3 df0 df2 df3
        have H2 := Lib.hid (H1.out.on hX2)
        obtain ⟨⟨a0, a1, a2, a3, -, -⟩, ⟨b0, b1, b2, b3, -, -⟩, ⟨r0, r1, r2, r3, rf, -⟩, ⟨d0, d1, d2, d3, df, -⟩⟩ := H2.out
        have rf0 := rf 0
        have rf1 := rf 1
        have rf2 := rf 2
        have rf3 := rf 3
        have df0 := df 0
        have df2 := df 2
        have df3 := df 3
        dsimp only at a0 a1 a2 a3 b0 b1 b2 b3 r0 r1 r2 r3 d0 d1 d2 d3
        clear rf df
        have HB2 := Lib.hid (HB1.out.trans (hX2.mono (by omega)))
        clear hX2
        go_wp2_with fail
        refine bodyPost_ret (v := .agg #[.int .u8 1, .string (S tkey), .string (S (le M 8)), .int .u64 0]) (by simp [results, Try.results63, go_sem, r0, r1, r2, r3]) rfl ⟨by rw [HJ.out], ?_⟩
        exact (((((HB2.out).setCell (p := ⟨w.heap.size + 1 + 1 + 1, 2, none⟩) (by show w.heap.size ≤ w.heap.size + 1 + 1 + 1; omega) _).setCell (p := ⟨w.heap.size + 1 + 1, 0, none⟩) (by show w.heap.size ≤ w.heap.size + 1 + 1; omega) _).setCell (p := ⟨w.heap.size + 1 + 1, 1, none⟩) (by show w.heap.size ≤ w.heap.size + 1 + 1; omega) _).setCell (p := ⟨w.heap.size + 1 + 1, 2, none⟩) (by show w.heap.size ≤ w.heap.size + 1 + 1; omega) _).setCell (p := ⟨w.heap.size + 1 + 1, 3, none⟩) (by show w.heap.size ≤ w.heap.size + 1 + 1; omega) _
      · have HJ := Lib.hid (show updV J = .agg #[.int .u8 1, .string (S tkey), .string (S fval), .int .u64 0] by rw [hj2 rfl rfl h8]; rfl)
        have hb8 : ((fval.length : Int) == 8) = false := by simp; omega
        clear hj1 hj2 hj3 hj4 h8
        go_enter Try.func63, Try.ntmps63
        go_wp2_with fail
        exact bodyPost_ret (v := .agg #[.int .u8 1, .string (S tkey), .string (S fval), .int .u64 0]) (by simp [results, Try.results63, go_sem]) rfl ⟨by rw [HJ.out], by go_grown⟩
    · have HJ := Lib.hid (show updV J = .agg #[.int .u8 1, .string (S tkey), .string (S (le (td % 18446744073709551616) 8)), .int .u64 0] by rw [hj3 rfl rfl]; rfl)
      · rw [Nat.mod_eq_of_lt htd] at HJ
        have hp := Lib.hid (fun W => put_any td htd 8 (by decide) (by decide) W)
        clear hj1 hj2 hj3 hj4
        go_enter Try.func63, Try.ntmps63
        go_wp2_with fail
        refine (thread (hp.out _) _ _ (Below.refl _ _) (Nat.le_refl _)).mono ?_
        rintro e w1 ⟨rfl, hX1, -, -, -, hz1⟩
        have H1 := Lib.hid ((FourU.start w ⟨2, fkey, fval, fd⟩ ⟨3, tkey, [], td⟩).on hX1)
        have HB2 := Lib.hid (show Below w.heap.size w w1 from Below.trans (by go_grown) (hX1.mono (by simp; omega)))
        obtain ⟨⟨a0, a1, a2, a3, -, -⟩, ⟨b0, b1, b2, b3, -, -⟩, ⟨r0, r1, r2, r3, rf, -⟩, ⟨d0, d1, d2, d3, df, -⟩⟩ := H1.out
        have rf0 := rf 0
        have rf1 := rf 1
        have rf2 := rf 2
        have rf3 := rf 3
        have df0 := df 0
        have df2 := df 2
        have df3 := df 3
        dsimp only at a0 a1 a2 a3 b0 b1 b2 b3 r0 r1 r2 r3 d0 d1 d2 d3
        clear rf df
        clear hX1 hz1
        go_wp2_with fail
        refine bodyPost_ret (v := .agg #[.int .u8 1, .string (S tkey), .string (S (le td 8)), .int .u64 0]) (by simp [results, Try.results63, go_sem, r0, r1, r2, r3]) rfl ⟨by rw [HJ.out], ?_⟩
        exact (((((HB2.out).setCell (p := ⟨w.heap.size + 1 + 1 + 1, 2, none⟩) (by show w.heap.size ≤ w.heap.size + 1 + 1 + 1; omega) _).setCell (p := ⟨w.heap.size + 1 + 1, 0, none⟩) (by show w.heap.size ≤ w.heap.size + 1 + 1; omega) _).setCell (p := ⟨w.heap.size + 1 + 1, 1, none⟩) (by show w.heap.size ≤ w.heap.size + 1 + 1; omega) _).setCell (p := ⟨w.heap.size + 1 + 1, 2, none⟩) (by show w.heap.size ≤ w.heap.size + 1 + 1; omega) _).setCell (p := ⟨w.heap.size + 1 + 1, 3, none⟩) (by show w.heap.size ≤ w.heap.size + 1 + 1; omega) _
    · have HJ := Lib.hid (show updV J = .agg #[.int .u8 3, .string (S tkey), .string (S []), .int .u64 ((fd + td) % 18446744073709551616 : Nat)] by rw [hj4 rfl rfl, u64_comm]; rfl)
      have hsum := u64_sum fd td
      generalize (fd + td) % 18446744073709551616 = M at *
      clear hj1 hj2 hj3 hj4
      go_enter Try.func63, Try.ntmps63
      go_wp2_with fail
      exact bodyPost_ret (v := .agg #[.int .u8 3, .string (S tkey), .string (S []), .int .u64 M]) (by simp [results, Try.results63, go_sem]; rfl) rfl ⟨by rw [HJ.out], by go_grown⟩
  · have HJ := Lib.hid (show updV J = .agg #[.int .u8 tk, .string (S tkey), .string (S tval), .int .u64 td] by rw [hj0 h3]; rfl)
    have h3' : ((tk : Int) == 3) = false := by simp; omega
    clear hj0 hj1 hj2 hj3 hj4 hfk htv
    go_enter Try.func63, Try.ntmps63
    go_wp2_with fail
    exact bodyPost_ret (v := .agg #[.int .u8 tk, .string (S tkey), .string (S tval), .int .u64 td]) (by simp [results, Try.results63, go_sem]) rfl ⟨by rw [HJ.out], by go_grown⟩

end Go.Proofs.Ytcjeonamebnpfaa
