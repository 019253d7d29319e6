/-
  The walks of an update of a tree of one leaf: hold, room, soil, give, top, Apply.
-/
import Derived.Test.YtafciefjlkdecaaGreatTrk
namespace Go.Proofs.YtafciefjlkdecaaGreat
open Go.RowKit
attribute [local go_sem ↓] Go.wp_at_zero Go.wp_at_succ

theorem lenE_next (a : Option Addr) (n c : Nat) (w : World) :
    Calls Tryz.prog 68 #[.agg #[.slice a n c]] w fun e w' => e = .returned (.int .i64 n) ∧ Below w.heap.size w w' := by
  go_enter Tryz.func68, Tryz.ntmps68
  go_wp2
  go_ret
  exact ⟨rfl, by go_grown⟩

set_option maxHeartbeats 1000000 in
theorem hold_in {b : Nat} {kn : Bool} {pa : Int} {pg ps : Nat} {lf cs us ks : Value} (tb : Nat) (h : Int) (w : World) (hv : VxAt w b kn pa pg ps true lf cs us ks) :
    Calls Tryz.prog 62 #[.pointer (some ⟨tb, 0, none⟩), .pointer (some ⟨b, 0, none⟩), .int .i64 h] w fun e w' => e = .returned (.int .i64 0) ∧ Below w.heap.size w w' := by
  go_enter Tryz.func62, Tryz.ntmps62
  go_wp2_with fail
  refine (thread (fetch_in (.pointer (some ⟨tb, 0, none⟩)) h w hv) w.heap.size w (Below.refl _ _) (Nat.le_refl _)).mono ?_
  rintro e w2 ⟨rfl, hX, -, -, -, hz⟩
  go_wp2_with fail
  go_ret
  exact ⟨rfl, hX⟩

set_option maxHeartbeats 1000000 in
theorem soil_clean {b : Nat} {pa : Int} {pg ps : Nat} {ld : Bool} {lf cs us ks : Value} (tb : Nat) (w : World) (hv : VxAt w b false pa pg ps ld lf cs us ks) :
    Calls Tryz.prog 65 #[.pointer (some ⟨tb, 0, none⟩), .pointer (some ⟨b, 0, none⟩)] w fun e w' => e = .returned (.tuple #[]) ∧ Below w.heap.size w w' := by
  have c0 := hv.c0
  go_enter Tryz.func65, Tryz.ntmps65
  go_wp2_with fail
  exact bodyPost_end (v := .tuple #[]) (by simp [results, Tryz.results65, go_sem]) rfl ⟨rfl, by go_grown⟩

set_option maxRecDepth 100000 in
set_option maxHeartbeats 4000000 in
theorem room_leaf {tb b : Nat} {F B L : Int} {ld : Value} {gone : Value} {fl le : Int} {kn : Bool} {pa : Int} {pg ps : Nat} {lf cs us ks : Value} (k : List UInt8) (w : World) (ht : TrAt w tb F B L ld b 1 gone fl le) (hv : VxAt w b kn pa pg ps true lf cs us ks) :
    Calls Tryz.prog 39 #[.pointer (some ⟨tb, 0, none⟩), .string (S k)] w fun e w' => e = .returned (.int .i64 0) ∧ Below w.heap.size w w' := by
  go_enter Tryz.func39, Tryz.ntmps39
  go_wp2_with fail
  go_loopw [] (fun wr => wr = w) (fun _ => 0)
  case atStart => rfl
  case round =>
    subst hrel
    have c4 := ht.c4
    have c5 := ht.c5
    go_upto_region 1 with (fail)
    refine WQ.region (C := fun w' => Below wr.heap.size wr w') (by kernel_rfl) (by kernel_rfl) (below_drew' (Below.refl _ _)) ?_
    refine WQ.want (by rfl) (fun K hK => ?_)
    refine ⟨.pointer (some ⟨tb, 0, none⟩), fun w' hw' => ?_, hK _ ?_⟩
    · have hq' := hw'
      go_simp
    clear hK K
    (try simp only [Act.put, List.setIfInBounds_toArray, List.set_cons_zero, List.set_cons_succ])
    refine WQ.want (by rfl) (fun K hK => ?_)
    refine ⟨.pointer (some ⟨tb, 0, none⟩), fun w' hw' => ?_, hK _ ?_⟩
    · have hq' := hw'
      go_simp
    clear hK K
    (try simp only [Act.put, List.setIfInBounds_toArray, List.set_cons_zero, List.set_cons_succ])
    refine WQ.want (by rfl) (fun K hK => ?_)
    refine ⟨.pointer (some ⟨tb, 0, none⟩), fun w' hw' => ?_, hK _ ?_⟩
    · have hq' := hw'
      go_simp
    clear hK K
    (try simp only [Act.put, List.setIfInBounds_toArray, List.set_cons_zero, List.set_cons_succ])
    refine WQ.want (by rfl) (fun K hK => ?_)
    refine ⟨.pointer (some ⟨tb, 4, none⟩), fun w' hw' => ?_, hK _ ?_⟩
    · have hq' := hw'
      go_simp
    clear hK K
    (try simp only [Act.put, List.setIfInBounds_toArray, List.set_cons_zero, List.set_cons_succ])
    refine WQ.want (by rfl) (fun K hK => ?_)
    refine ⟨.pointer (some ⟨b, 0, none⟩), fun w' hw' => ?_, hK _ ?_⟩
    · have hq' := hw'
      have z0 := kept_cell hw' c4; have z1 := kept_cell hw' c5; go_simp
    clear hK K
    (try simp only [Act.put, List.setIfInBounds_toArray, List.set_cons_zero, List.set_cons_succ])
    refine WQ.want (by rfl) (fun K hK => ?_)
    refine ⟨.pointer (some ⟨tb, 0, none⟩), fun w' hw' => ?_, hK _ ?_⟩
    · have hq' := hw'
      go_simp
    clear hK K
    (try simp only [Act.put, List.setIfInBounds_toArray, List.set_cons_zero, List.set_cons_succ])
    refine WQ.want (by rfl) (fun K hK => ?_)
    refine ⟨.pointer (some ⟨tb, 0, none⟩), fun w' hw' => ?_, hK _ ?_⟩
    · have hq' := hw'
      go_simp
    clear hK K
    (try simp only [Act.put, List.setIfInBounds_toArray, List.set_cons_zero, List.set_cons_succ])
    refine WQ.want (by rfl) (fun K hK => ?_)
    refine ⟨.pointer (some ⟨tb, 5, none⟩), fun w' hw' => ?_, hK _ ?_⟩
    · have hq' := hw'
      go_simp
    clear hK K
    (try simp only [Act.put, List.setIfInBounds_toArray, List.set_cons_zero, List.set_cons_succ])
    refine WQ.want (by rfl) (fun K hK => ?_)
    refine ⟨.int .i64 1, fun w' hw' => ?_, hK _ ?_⟩
    · have hq' := hw'
      have z0 := kept_cell hw' c4; have z1 := kept_cell hw' c5; go_simp
    clear hK K
    (try simp only [Act.put, List.setIfInBounds_toArray, List.set_cons_zero, List.set_cons_succ])
    refine WQ.want (by rfl) (fun K hK => ?_)
    refine ⟨.int .i64 0, fun w' hw' => ?_, hK _ ?_⟩
    · have hq' := hw'
      go_simp
      go_at_call 62
      refine (hold_in tb 1 _ (hv.kept hq' (Nat.le_refl _))).mono ?_
      rintro e w6 ⟨he, hb6⟩
      exact ⟨he, hq'.trans (hb6.mono hq'.size)⟩
    clear hK K
    (try simp only [Act.put, List.setIfInBounds_toArray, List.set_cons_zero, List.set_cons_succ])
    refine WQ.want (by rfl) (fun K hK => ?_)
    refine ⟨.int .i64 0, fun w' hw' => ?_, hK _ ?_⟩
    · have hq' := hw'
      go_simp
    clear hK K
    (try simp only [Act.put, List.setIfInBounds_toArray, List.set_cons_zero, List.set_cons_succ])
    refine WQ.done ?_
    rintro w2 hX
    replace c5 := kept_cell hX c5
    go_wp2_with fail
    go_ret
    exact ⟨rfl, hX⟩

set_option maxRecDepth 100000 in
set_option maxHeartbeats 4000000 in
/-- Messages come into a leaf. -/
theorem give_leaf {tb b : Nat} {pa : Int} {pg ps : Nat} {ld : Bool} {a : Option Addr} {n c : Nat} {cs us : Value} {es : List Ent} (s : Value) (l : List Upd) (w : World) (hv : VxAt w b false pa pg ps ld (.slice a n c) cs us (.slice none 0 0)) (hb : BoxE w (.agg #[.slice a n c]) es) (hs : SlU w s l) (hl : es.length ≤ 10000) (hr : Rising Ent.key es) (hf : FineE es) (hw : ∀ u ∈ l, u.Wf) (hll : l.length ≤ 10000) :
    Calls Tryz.prog 40 #[.pointer (some ⟨tb, 0, none⟩), .pointer (some ⟨b, 0, none⟩), s] w fun e w' => e = .returned (.tuple #[]) ∧ (∃ a' c', VxAt w' b false pa pg ps ld (.slice a' (onAll es l).length c') cs us (.slice none 0 0) ∧ BoxE w' (.agg #[.slice a' (onAll es l).length c']) (onAll es l)) ∧ Keep (fun x => x = b) w w' := by
  have HO := Lib.hid (fun w' h1 h2 => leafOn_any (.agg #[.slice a n c]) es s l w' h1 hl hr hf h2 hw hll)
  have HB := Lib.hid hb
  have HS := Lib.hid hs
  obtain ⟨sa, sc, es1, -⟩ := hs
  subst es1
  clear hb
  go_enter Tryz.func40, Tryz.ntmps40
  go_wp2_with fail
  refine (thread (soil_clean tb w hv) w.heap.size w (Below.refl _ _) (Nat.le_refl _)).mono ?_
  rintro e w1 ⟨rfl, hX1, -, -, -, hz1⟩
  have hv1 := hv.on hX1
  have v8 := hv1.c8
  have v5 := hv1.c5
  have vf := hv1.fz 5
  go_wp2_with fail
  refine (HO.out w1 (HB.out.kept hX1 (Nat.le_refl _)) (HS.out.kept hX1 (Nat.le_refl _))).mono ?_
  rintro e w2 ⟨⟨a', c', rfl, hb2⟩, hX2⟩
  have hv2 := hv1.on hX2
  have v5' := hv2.c5
  have vf' := hv2.fz 5
  have HB2 := Lib.hid hb2
  have hX := hX1.trans (hX2.mono hX1.size)
  go_wp2_with fail
  refine bodyPost_ret (v := .tuple #[]) (by simp [results, Tryz.results40, go_sem]) rfl ⟨rfl, ⟨a', c', hv2.putL _, HB2.out.setAt v5' _⟩, (Keep.of_below (S := fun x => x = b) hX).setCell ⟨b, 5, none⟩ (Or.inl rfl) _⟩

set_option maxRecDepth 100000 in
set_option maxHeartbeats 4000000 in
/-- A root that is a leaf of no more than it may have stays. -/
theorem top_leaf {tb b : Nat} {F B L : Int} {ld : Value} {gone : Value} {fl le : Int} {kn : Bool} {pa : Int} {pg ps : Nat} {ldd : Bool} {a : Option Addr} {n c : Nat} {cs us ks : Value} (w : World) (ht : TrAt w tb F B L ld b 1 gone fl le) (hv : VxAt w b kn pa pg ps ldd (.slice a n c) cs us ks) (hn : ¬ L < (n : Int)) :
    Calls Tryz.prog 41 #[.pointer (some ⟨tb, 0, none⟩)] w fun e w' => e = .returned (.tuple #[]) ∧ Below w.heap.size w w' := by
  have c4 := ht.c4
  have c5 := ht.c5
  have c2 := ht.c2
  have v5 := hv.c5
  go_enter Tryz.func41, Tryz.ntmps41
  go_wp2_with fail
  go_loopw [] (fun wr => wr = w) (fun _ => 0)
  case atStart => rfl
  case round =>
    subst hrel
    go_upto_region 0 with (fail)
    refine WQ.region (C := fun w' => Below wr.heap.size wr w') (by kernel_rfl) (by kernel_rfl) (below_drew' (Below.refl _ _)) ?_
    refine WQ.want (by rfl) (fun K hK => ?_)
    refine ⟨.pointer (some ⟨tb, 0, none⟩), fun w' hw' => ?_, hK _ ?_⟩
    · have hq' := hw'
      go_simp
    clear hK K
    (try simp only [Act.put, List.setIfInBounds_toArray, List.set_cons_zero, List.set_cons_succ])
    refine WQ.want (by rfl) (fun K hK => ?_)
    refine ⟨.pointer (some ⟨tb, 0, none⟩), fun w' hw' => ?_, hK _ ?_⟩
    · have hq' := hw'
      go_simp
    clear hK K
    (try simp only [Act.put, List.setIfInBounds_toArray, List.set_cons_zero, List.set_cons_succ])
    refine WQ.want (by rfl) (fun K hK => ?_)
    refine ⟨.pointer (some ⟨tb, 5, none⟩), fun w' hw' => ?_, hK _ ?_⟩
    · have hq' := hw'
      go_simp
    clear hK K
    (try simp only [Act.put, List.setIfInBounds_toArray, List.set_cons_zero, List.set_cons_succ])
    refine WQ.want (by rfl) (fun K hK => ?_)
    refine ⟨.int .i64 1, fun w' hw' => ?_, hK _ ?_⟩
    · have hq' := hw'
      have z0 := kept_cell hw' c4; have z1 := kept_cell hw' c5; have z2 := kept_cell hw' c2; have z3 := kept_cell hw' v5; go_simp
    clear hK K
    (try simp only [Act.put, List.setIfInBounds_toArray, List.set_cons_zero, List.set_cons_succ])
    refine WQ.want (by rfl) (fun K hK => ?_)
    refine ⟨.bool true, fun w' hw' => ?_, hK _ ?_⟩
    · have hq' := hw'
      go_simp
    clear hK K
    (try simp only [Act.put, List.setIfInBounds_toArray, List.set_cons_zero, List.set_cons_succ])
    refine WQ.want (by rfl) (fun K hK => ?_)
    refine ⟨.bool true, fun w' hw' => ?_, hK _ ?_⟩
    · have hq' := hw'
      go_simp
    clear hK K
    (try simp only [Act.put, List.setIfInBounds_toArray, List.set_cons_zero, List.set_cons_succ])
    refine WQ.want (by rfl) (fun K hK => ?_)
    refine ⟨.pointer (some ⟨tb, 0, none⟩), fun w' hw' => ?_, hK _ ?_⟩
    · have hq' := hw'
      go_simp
    clear hK K
    (try simp only [Act.put, List.setIfInBounds_toArray, List.set_cons_zero, List.set_cons_succ])
    refine WQ.want (by rfl) (fun K hK => ?_)
    refine ⟨.pointer (some ⟨tb, 0, none⟩), fun w' hw' => ?_, hK _ ?_⟩
    · have hq' := hw'
      go_simp
    clear hK K
    (try simp only [Act.put, List.setIfInBounds_toArray, List.set_cons_zero, List.set_cons_succ])
    refine WQ.want (by rfl) (fun K hK => ?_)
    refine ⟨.pointer (some ⟨tb, 4, none⟩), fun w' hw' => ?_, hK _ ?_⟩
    · have hq' := hw'
      go_simp
    clear hK K
    (try simp only [Act.put, List.setIfInBounds_toArray, List.set_cons_zero, List.set_cons_succ])
    refine WQ.want (by rfl) (fun K hK => ?_)
    refine ⟨.pointer (some ⟨b, 0, none⟩), fun w' hw' => ?_, hK _ ?_⟩
    · have hq' := hw'
      have z0 := kept_cell hw' c4; have z1 := kept_cell hw' c5; have z2 := kept_cell hw' c2; have z3 := kept_cell hw' v5; go_simp
    clear hK K
    (try simp only [Act.put, List.setIfInBounds_toArray, List.set_cons_zero, List.set_cons_succ])
    refine WQ.want (by rfl) (fun K hK => ?_)
    refine ⟨.pointer (some ⟨b, 0, none⟩), fun w' hw' => ?_, hK _ ?_⟩
    · have hq' := hw'
      go_simp
    clear hK K
    (try simp only [Act.put, List.setIfInBounds_toArray, List.set_cons_zero, List.set_cons_succ])
    refine WQ.want (by rfl) (fun K hK => ?_)
    refine ⟨.pointer (some ⟨b, 5, none⟩), fun w' hw' => ?_, hK _ ?_⟩
    · have hq' := hw'
      go_simp
    clear hK K
    (try simp only [Act.put, List.setIfInBounds_toArray, List.set_cons_zero, List.set_cons_succ])
    refine WQ.want (by rfl) (fun K hK => ?_)
    refine ⟨.agg #[.slice a n c], fun w' hw' => ?_, hK _ ?_⟩
    · have hq' := hw'
      have z0 := kept_cell hw' c4; have z1 := kept_cell hw' c5; have z2 := kept_cell hw' c2; have z3 := kept_cell hw' v5; go_simp
    clear hK K
    (try simp only [Act.put, List.setIfInBounds_toArray, List.set_cons_zero, List.set_cons_succ])
    refine WQ.want (by rfl) (fun K hK => ?_)
    refine ⟨.int .i64 n, fun w' hw' => ?_, hK _ ?_⟩
    · have hq' := hw'
      go_simp
      go_at_call 68
      refine (lenE_next a n c _).mono ?_
      rintro e w6 ⟨he, hb6⟩
      exact ⟨he, hq'.trans (hb6.mono hq'.size)⟩
    clear hK K
    (try simp only [Act.put, List.setIfInBounds_toArray, List.set_cons_zero, List.set_cons_succ])
    refine WQ.want (by rfl) (fun K hK => ?_)
    refine ⟨.pointer (some ⟨tb, 0, none⟩), fun w' hw' => ?_, hK _ ?_⟩
    · have hq' := hw'
      go_simp
    clear hK K
    (try simp only [Act.put, List.setIfInBounds_toArray, List.set_cons_zero, List.set_cons_succ])
    refine WQ.want (by rfl) (fun K hK => ?_)
    refine ⟨.pointer (some ⟨tb, 0, none⟩), fun w' hw' => ?_, hK _ ?_⟩
    · have hq' := hw'
      go_simp
    clear hK K
    (try simp only [Act.put, List.setIfInBounds_toArray, List.set_cons_zero, List.set_cons_succ])
    refine WQ.want (by rfl) (fun K hK => ?_)
    refine ⟨.pointer (some ⟨tb, 0, none⟩), fun w' hw' => ?_, hK _ ?_⟩
    · have hq' := hw'
      go_simp
    clear hK K
    (try simp only [Act.put, List.setIfInBounds_toArray, List.set_cons_zero, List.set_cons_succ])
    refine WQ.want (by rfl) (fun K hK => ?_)
    refine ⟨.pointer (some ⟨tb, 2, none⟩), fun w' hw' => ?_, hK _ ?_⟩
    · have hq' := hw'
      go_simp
    clear hK K
    (try simp only [Act.put, List.setIfInBounds_toArray, List.set_cons_zero, List.set_cons_succ])
    refine WQ.want (by rfl) (fun K hK => ?_)
    refine ⟨.int .i64 L, fun w' hw' => ?_, hK _ ?_⟩
    · have hq' := hw'
      have z0 := kept_cell hw' c4; have z1 := kept_cell hw' c5; have z2 := kept_cell hw' c2; have z3 := kept_cell hw' v5; go_simp
    clear hK K
    (try simp only [Act.put, List.setIfInBounds_toArray, List.set_cons_zero, List.set_cons_succ])
    refine WQ.want (by rfl) (fun K hK => ?_)
    refine ⟨.bool false, fun w' hw' => ?_, hK _ ?_⟩
    · have hq' := hw'
      go_simp
    clear hK K
    (try simp only [Act.put, List.setIfInBounds_toArray, List.set_cons_zero, List.set_cons_succ])
    refine WQ.want (by rfl) (fun K hK => ?_)
    refine ⟨.bool false, fun w' hw' => ?_, hK _ ?_⟩
    · have hq' := hw'
      go_simp
    clear hK K
    (try simp only [Act.put, List.setIfInBounds_toArray, List.set_cons_zero, List.set_cons_succ])
    refine WQ.done ?_
    rintro w2 hX
    replace c5 := kept_cell hX c5
    obtain ⟨W1, hW1⟩ : ∃ W1, W1 = wr := ⟨_, rfl⟩
    subst hW1
    go_wp2_with fail
    go_loopw [] (fun wr' => wr' = w2) (fun _ => 0)
    case atStart => rfl
    case round =>
      subst hrel
      go_upto_region 2 with (fail)
      refine WQ.region (C := fun w' => Below wr.heap.size wr w') (by kernel_rfl) (by kernel_rfl) (below_drew' (Below.refl _ _)) ?_
      refine WQ.want (by rfl) (fun K hK => ?_)
      refine ⟨.pointer (some ⟨tb, 0, none⟩), fun w' hw' => ?_, hK _ ?_⟩
      · have hq' := hw'
        go_simp
      clear hK K
      (try simp only [Act.put, List.setIfInBounds_toArray, List.set_cons_zero, List.set_cons_succ])
      refine WQ.want (by rfl) (fun K hK => ?_)
      refine ⟨.pointer (some ⟨tb, 0, none⟩), fun w' hw' => ?_, hK _ ?_⟩
      · have hq' := hw'
        go_simp
      clear hK K
      (try simp only [Act.put, List.setIfInBounds_toArray, List.set_cons_zero, List.set_cons_succ])
      refine WQ.want (by rfl) (fun K hK => ?_)
      refine ⟨.pointer (some ⟨tb, 5, none⟩), fun w' hw' => ?_, hK _ ?_⟩
      · have hq' := hw'
        go_simp
      clear hK K
      (try simp only [Act.put, List.setIfInBounds_toArray, List.set_cons_zero, List.set_cons_succ])
      refine WQ.want (by rfl) (fun K hK => ?_)
      refine ⟨.int .i64 1, fun w' hw' => ?_, hK _ ?_⟩
      · have hq' := hw'
        have z0 := kept_cell hw' c5; go_simp
      clear hK K
      (try simp only [Act.put, List.setIfInBounds_toArray, List.set_cons_zero, List.set_cons_succ])
      refine WQ.want (by rfl) (fun K hK => ?_)
      refine ⟨.bool false, fun w' hw' => ?_, hK _ ?_⟩
      · have hq' := hw'
        go_simp
      clear hK K
      (try simp only [Act.put, List.setIfInBounds_toArray, List.set_cons_zero, List.set_cons_succ])
      refine WQ.want (by rfl) (fun K hK => ?_)
      refine ⟨.bool false, fun w' hw' => ?_, hK _ ?_⟩
      · have hq' := hw'
        go_simp
      clear hK K
      (try simp only [Act.put, List.setIfInBounds_toArray, List.set_cons_zero, List.set_cons_succ])
      refine WQ.skip (by rfl) ?_
      (try simp only [Act.put, List.setIfInBounds_toArray, List.set_cons_zero, List.set_cons_succ])
      refine WQ.skip (by rfl) ?_
      (try simp only [Act.put, List.setIfInBounds_toArray, List.set_cons_zero, List.set_cons_succ])
      refine WQ.skip (by rfl) ?_
      (try simp only [Act.put, List.setIfInBounds_toArray, List.set_cons_zero, List.set_cons_succ])
      refine WQ.skip (by rfl) ?_
      (try simp only [Act.put, List.setIfInBounds_toArray, List.set_cons_zero, List.set_cons_succ])
      refine WQ.skip (by rfl) ?_
      (try simp only [Act.put, List.setIfInBounds_toArray, List.set_cons_zero, List.set_cons_succ])
      refine WQ.skip (by rfl) ?_
      (try simp only [Act.put, List.setIfInBounds_toArray, List.set_cons_zero, List.set_cons_succ])
      refine WQ.skip (by rfl) ?_
      (try simp only [Act.put, List.setIfInBounds_toArray, List.set_cons_zero, List.set_cons_succ])
      refine WQ.skip (by rfl) ?_
      (try simp only [Act.put, List.setIfInBounds_toArray, List.set_cons_zero, List.set_cons_succ])
      refine WQ.skip (by rfl) ?_
      (try simp only [Act.put, List.setIfInBounds_toArray, List.set_cons_zero, List.set_cons_succ])
      refine WQ.skip (by rfl) ?_
      (try simp only [Act.put, List.setIfInBounds_toArray, List.set_cons_zero, List.set_cons_succ])
      refine WQ.skip (by rfl) ?_
      (try simp only [Act.put, List.setIfInBounds_toArray, List.set_cons_zero, List.set_cons_succ])
      refine WQ.skip (by rfl) ?_
      (try simp only [Act.put, List.setIfInBounds_toArray, List.set_cons_zero, List.set_cons_succ])
      refine WQ.want (by rfl) (fun K hK => ?_)
      refine ⟨.bool false, fun w' hw' => ?_, hK _ ?_⟩
      · have hq' := hw'
        go_simp
      clear hK K
      (try simp only [Act.put, List.setIfInBounds_toArray, List.set_cons_zero, List.set_cons_succ])
      refine WQ.done ?_
      rintro w3 hX3
      replace c5 := kept_cell hX3 c5
      obtain ⟨W2, hW2⟩ : ∃ W2, W2 = wr := ⟨_, rfl⟩
      subst hW2
      have hX4 := hX.trans (hX3.mono hX.size)
      go_wp2_with fail
      go_loopw [] (fun wr' => wr' = w3) (fun _ => 0)
      case atStart => rfl
      case round =>
        subst hrel
        go_wp2_with fail
        exact bodyPost_end (v := .tuple #[]) (by simp [results, Tryz.results41, go_sem]) rfl ⟨rfl, hX4⟩

set_option maxRecDepth 100000 in
set_option maxHeartbeats 4000000 in
/-- An update that may not be. -/
theorem apply_no {tb : Nat} (kd : Nat) (key val : List UInt8) (dl : Nat) (w : World) (hk : kd < 256) (hd : dl < 18446744073709551616) (hc : (Upd.mk kd key val dl).check ≠ 0) :
    Calls Tryz.prog 13 #[.pointer (some ⟨tb, 0, none⟩), .agg #[.int .u8 kd, .string (S key), .string (S val), .int .u64 dl]] w fun e w' => e = .returned (.int .i64 (Upd.mk kd key val dl).check) ∧ Below w.heap.size w w' := by
  have HC := Lib.hid (fun w => chk kd key val dl hk hd w)
  have hc' : (((Upd.mk kd key val dl).check : Int) != 0) = true := by simp; omega
  generalize (Upd.mk kd key val dl).check = n at *
  go_enter Tryz.func13, Tryz.ntmps13
  go_wp2_with fail
  refine (thread (HC.out _) w.heap.size w (by go_grown) (by go_grown)).mono ?_
  rintro e w1 ⟨rfl, hX, -, -, -, hz⟩
  go_wp2_with fail
  go_ret
  exact ⟨rfl, hX⟩

set_option maxRecDepth 100000 in
set_option maxHeartbeats 4000000 in
/-- An update of a tree of one leaf, that stays one. -/
theorem apply_leaf {tb b : Nat} {F B L : Int} {fn : Fn} {xs ys : Array Value} {ga : Option Addr} {gn gc : Nat} {fl le : Int} {pa : Int} {pg ps : Nat} {a : Option Addr} {n c : Nat} {cs us : Value} {es : List Ent} (kd : Nat) (key val : List UInt8) (dl : Nat) (w : World)
    (ht : TrAt w tb F B L (.func fn xs ys) b 1 (.slice ga gn gc) fl le) (hv : VxAt w b false pa pg ps true (.slice a n c) cs us (.slice none 0 0)) (hb : BoxE w (.agg #[.slice a n c]) es) (hl : es.length ≤ 10000) (hr : Rising Ent.key es) (hf : FineE es)
    (hk : kd < 256) (hd : dl < 18446744073709551616) (hc : (Upd.mk kd key val dl).check = 0) (hL : ((onAll es [⟨kd, key, val, dl⟩]).length : Int) ≤ L) :
    Calls Tryz.prog 13 #[.pointer (some ⟨tb, 0, none⟩), .agg #[.int .u8 kd, .string (S key), .string (S val), .int .u64 dl]] w fun e w' => e = .returned (.int .i64 0) ∧ (∃ a' c', VxAt w' b false pa pg ps true (.slice a' (onAll es [⟨kd, key, val, dl⟩]).length c') cs us (.slice none 0 0) ∧ BoxE w' (.agg #[.slice a' (onAll es [⟨kd, key, val, dl⟩]).length c']) (onAll es [⟨kd, key, val, dl⟩])) ∧ TrAt w' tb F B L (.func fn xs ys) b 1 (.slice ga gn gc) fl le ∧ Keep (fun x => x = b) w w' := by
  have hne : b ≠ tb := fun e => by
    subst e
    have h1 := ht.row
    have h2 := hv.row
    unfold RowIs at h1 h2
    rw [h1] at h2
    simp at h2
  have HC := Lib.hid (fun w => chk kd key val dl hk hd w)
  rw [hc] at HC
  have HGV := Lib.hid (fun w' (s : Value) (h1 : VxAt w' b false pa pg ps true (.slice a n c) cs us (.slice none 0 0)) h2 h3 => give_leaf (tb := tb) s [⟨kd, key, val, dl⟩] w' h1 h2 h3 hl hr hf (fun u hu => by rw [List.mem_singleton] at hu; rw [hu]; exact ⟨hk, hd⟩) (by simp))
  have HB := Lib.hid hb
  clear hb hr hf hc
  generalize onAll es [⟨kd, key, val, dl⟩] = E at *
  go_enter Tryz.func13, Tryz.ntmps13
  go_upto_region 3 with (fail)
  have hT := Lib.hid ht
  have hV := Lib.hid hv
  have hK := Keep.refl (fun x => x = b) w
  have hb0 := Below.refl w.heap.size w
  clear ht hv
  obtain ⟨W, hW_W⟩ : ∃ W, W = (w.alloc (.cells #[.int .u8 kd, .string (S key), .string (S val), .int .u64 dl] 39)) := ⟨_, rfl⟩
  rw [← hW_W]
  have hX_W : Below w.heap.size w W := by rw [hW_W]; go_grown
  have gu0 : W.cell? ⟨w.heap.size, 0, none⟩ = some (.int .u8 kd) := by rw [hW_W, World.cell?_alloc_at _ _ _ _ (by simp)]; rfl
  have gu1 : W.cell? ⟨w.heap.size, 1, none⟩ = some (.string (S key)) := by rw [hW_W, World.cell?_alloc_at _ _ _ _ (by simp)]; rfl
  have gu2 : W.cell? ⟨w.heap.size, 2, none⟩ = some (.string (S val)) := by rw [hW_W, World.cell?_alloc_at _ _ _ _ (by simp)]; rfl
  have gu3 : W.cell? ⟨w.heap.size, 3, none⟩ = some (.int .u64 dl) := by rw [hW_W, World.cell?_alloc_at _ _ _ _ (by simp)]; rfl
  clear hW_W
  have hz_W := hX_W.size
  replace hT := Lib.hid (hT.out.kept hX_W (Nat.le_refl _))
  replace hV := Lib.hid (hV.out.kept hX_W (Nat.le_refl _))
  replace HB := Lib.hid (HB.out.kept hX_W (Nat.le_refl _))
  replace hb0 := hb0.trans (hX_W.mono hb0.size)
  clear hX_W
  go_wp2_with fail
  refine (thread (HC.out W) W.heap.size W (Below.refl _ _) (Nat.le_refl _)).mono ?_
  rintro e w1 ⟨rfl, hX_w1, -, -, -, hz_w1⟩
  replace gu0 := kept_cell hX_w1 gu0
  replace gu1 := kept_cell hX_w1 gu1
  replace gu2 := kept_cell hX_w1 gu2
  replace gu3 := kept_cell hX_w1 gu3
  replace hT := Lib.hid (hT.out.kept hX_w1 (Nat.le_refl _))
  replace hV := Lib.hid (hV.out.kept hX_w1 (Nat.le_refl _))
  replace HB := Lib.hid (HB.out.kept hX_w1 (Nat.le_refl _))
  replace hb0 := hb0.trans (hX_w1.mono hb0.size)
  clear hX_w1
  go_wp2_with fail
  refine (thread (room_leaf key w1 hT.out hV.out) w1.heap.size w1 (Below.refl _ _) (Nat.le_refl _)).mono ?_
  rintro e w2 ⟨rfl, hX_w2, -, -, -, hz_w2⟩
  replace gu0 := kept_cell hX_w2 gu0
  replace gu1 := kept_cell hX_w2 gu1
  replace gu2 := kept_cell hX_w2 gu2
  replace gu3 := kept_cell hX_w2 gu3
  replace hT := Lib.hid (hT.out.kept hX_w2 (Nat.le_refl _))
  replace hV := Lib.hid (hV.out.kept hX_w2 (Nat.le_refl _))
  replace HB := Lib.hid (HB.out.kept hX_w2 (Nat.le_refl _))
  replace hb0 := hb0.trans (hX_w2.mono hb0.size)
  clear hX_w2
  have c4 := hT.out.c4
  go_upto_region 9 with (fail)
  have e1 : ∀ x, (w2.alloc x).cell? ⟨tb, 4, none⟩ = some (.pointer (some ⟨b, 0, none⟩)) := fun x => (World.cell?_alloc_past _ _ _ hT.out.lt).trans c4
  have hW3 : Below w2.heap.size w2 (w2.alloc (.cells #[.int .u8 kd, .string (S key), .string (S val), .int .u64 dl] 39)).drew := below_drew' ((Below.refl _ _).alloc (Nat.le_refl _) _)
  have HS3 := Lib.hid (show SlU (w2.alloc (.cells #[.int .u8 kd, .string (S key), .string (S val), .int .u64 dl] 39)).drew (.slice (some ⟨w2.heap.size, 0, none⟩) 1 1) [⟨kd, key, val, dl⟩] from
    ⟨_, _, rfl, SlAt.new w2 _ _ _ [(⟨kd, key, val, dl⟩ : Upd)] (fun x hx => rfl) (by simp; rfl), Nat.le_refl _, by show (1 : Int) ≤ _; omega, fun e => by simp at e⟩)
  go_region_law (first | (go_simp; go_at_call 40; refine (HGV.out _ _ (hV.out.on hW3) (HB.out.kept hW3 (Nat.le_refl _)) HS3.out).mono ?_; rintro e w4 ⟨rfl, ⟨a', c', hv4, hb4⟩, hK4⟩))
  all_goals
    have HT4 := Lib.hid (show TrAt w4 tb F B L (.func fn xs ys) b 1 (.slice ga gn gc) fl le from ⟨hK4.row (hT.out.on hW3).row (fun e => hne e.symm)⟩)
    have HB4 := Lib.hid hb4
    have hK2 : Keep (fun x => x = b) w w4 := ((Keep.of_below (S := fun x => x = b) hb0).trans' (.of_below (hW3.mono (Nat.le_refl _)))).trans' hK4
    clear hb4 hK4 hW3
    go_wp2_with fail
    refine (thread (top_leaf w4 HT4.out hv4 (by omega)) w4.heap.size w4 (Below.refl _ _) (Nat.le_refl _)).mono ?_
    rintro e w5 ⟨rfl, hX5, -, -, -, hz5⟩
    have hK5 := hK2.on hX5
    have hv5 := hv4.on hX5
    have HB5 := Lib.hid (HB4.out.kept hX5 (Nat.le_refl _))
    have HT5 := Lib.hid (HT4.out.on hX5)
    go_wp2_with fail
    go_ret
    exact ⟨rfl, ⟨a', c', hv5, HB5.out⟩, HT5.out, hK5⟩

end Go.Proofs.YtafciefjlkdecaaGreat
