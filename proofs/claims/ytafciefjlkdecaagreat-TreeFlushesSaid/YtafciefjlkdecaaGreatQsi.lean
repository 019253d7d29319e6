/-
  TreeFlushes: a set of keys as a map; what updates make of the sums; the plain law. The walk of TreeFlushes.
-/
import Derived.Deep.Cut
import Derived.Test.YtafciefjlkdecaaGreatQsg
set_option maxRecDepth 100000
set_option maxHeartbeats 16000000
namespace Go.Proofs.YtafciefjlkdecaaGreat
open Go.RowKit
open Go.Maps (Keyed)
attribute [local go_sem ↓] Go.wp_at_zero Go.wp_at_succ
theorem strK : Keyed Tryz.prog 9 := Maps.string_keyed Tryz.underlying9
theorem key_str (k : List UInt8) (hk : k.length ≤ 1000000) : keyOf Tryz.prog 9 (.string (S k)) = some (.string k) := by
 have := WideMaps.keyOf_string_mk Tryz.underlying9 (s := S k) (by rw [S_size]; unfold maxLen; omega)
 simpa [S] using this
def addK (k : List UInt8) (ks : List (List UInt8)) : List (List UInt8) := if k ∈ ks then ks else k :: ks
theorem mem_addK (k : List UInt8) (ks : List (List UInt8)) (q : List UInt8) : q ∈ addK k ks ↔ k = q ∨ q ∈ ks := by
 unfold addK
 by_cases h : k ∈ ks
 ·rw [if_pos h]
  exact ⟨Or.inr, fun e => e.elim (fun e => e ▸ h) id⟩
 ·rw [if_neg h, List.mem_cons]
  exact ⟨fun e => e.imp Eq.symm id, fun e => e.imp Eq.symm id⟩
structure KyMap (w : World) (b n : Nat) (ks : List (List UInt8)) : Prop where
 own : ∃ D : DataW Unit, w.ownsMap Tryz.prog 9 (plainElem Tryz.prog 4) b n D ∧ Maps.size D = ks.length ∧ ∀ q : List UInt8, Maps.has D (.string q) = decide (q ∈ ks)
section
variable {w w' : World} {b n : Nat} {ks : List (List UInt8)}
theorem KyMap.made (w : World) : KyMap (w.alloc (.map #[] 0)) w.heap.size 0 [] := ⟨.map [], World.ownsMap_made _ _ _ _, rfl, fun _ => rfl⟩
theorem KyMap.lt (h : KyMap w b n ks) : b < w.heap.size := by obtain ⟨D, h, _⟩ := h; exact h.lt
theorem KyMap.on (h : KyMap w b n ks) (hb : Below w.heap.size w w') : KyMap w' b n ks := by
 obtain ⟨D, h, hs⟩ := h
 exact ⟨D, h.kept (row := none) ⟨hb.os, hb.tape, hb.output, hb.size, fun i hi _ => hb.block i hi⟩ (by simp), hs⟩
theorem KyMap.keep {M : Nat → Prop} (h : KyMap w b n ks) (hk : Keep M w w') (hb : ¬ M b) : KyMap w' b n ks := by
 have hl := h.lt
 obtain ⟨D, ⟨es0, clock0, h1, h2⟩, h3⟩ := h
 exact ⟨D, ⟨es0, clock0, (hk.block b hl hb).trans h1, h2⟩, h3⟩
theorem KyMap.noRow (h : KyMap w b n ks) {E : TypeId} {cur : List Value} : ¬ RowIs w E b cur := fun hr => by
 obtain ⟨D, ⟨es, clock, hb, _⟩, _⟩ := h
 unfold RowIs at hr
 rw [hb] at hr
 simp at hr
theorem KyMap.len (h : KyMap w b n ks) (ty : TypeId) : (Builtin.len_ #[34] ty #[.map (some b)]).run Tryz.prog w = .ok (.int .i64 (ks.length : Int)) w := by
 obtain ⟨D, h, hz, -⟩ := h
 have := h.len Tryz.underlying34 ty
 rw [hz] at this
 exact this
theorem KyMap.put (h : KyMap w b n ks) (hn : n < 100000) (k : List UInt8) (hk : k.length ≤ 1000000) : ∃ w', (Instr.mapUpdate 34 (.map (some b)) (.string (S k)) (.bool true)).run Tryz.prog w = .ok () w' ∧ KyMap w' b (n + 1) (addK k ks) ∧ w.grownBy w' (some b) := by
 obtain ⟨D, h, hz, hs⟩ := h
 obtain ⟨w', hrun, r1, r2⟩ := h.update strK Tryz.underlying34 (by unfold maxLen; omega) (key_str k hk) (plainElem_bool Tryz.underlying4 true)
 have hkl : WideAt.IsKeyLit (.string k) := strK.key (key_str k hk)
 refine ⟨w', hrun, ⟨_, r1, ?_, fun q => ?_⟩, r2⟩
 ·unfold addK
  rw [Maps.size_put (h.tidy strK), hs k, hz]
  by_cases hm : k ∈ ks
  ·rw [if_pos hm]; simp [hm]
  ·rw [if_neg hm]; simp [hm]
 ·by_cases e : q = k
  ·subst e
   rw [Maps.has_put_same h.isMap hkl]
   exact (decide_eq_true ((mem_addK q ks q).2 (Or.inl rfl))).symm
  ·have hne : (Lit.string q) ≠ .string k := fun x => e (by injection x)
   rw [Maps.has_put_other hne, hs q]
   exact decide_eq_decide.2 ⟨fun m => (mem_addK k ks q).2 (Or.inr m), fun m => ((mem_addK k ks q).1 m).elim (fun x => absurd x.symm e) id⟩
end
theorem flushes_tree {b : Nat} {F B L : Int} {ld : Value} {root : Nat} {h' : Int} {gone : Value} {fl le : Int} (w : World) (h : TrAt w b F B L ld root h' gone fl le) : Calls Tryz.prog 15 #[.pointer (some ⟨b, 0, none⟩)] w fun e w' => e = .returned (.tuple #[.int .i64 fl, .int .i64 le]) ∧ Below w.heap.size w w' := by
 have c7 := h.c7
 have c8 := h.c8
 go_enter Tryz.func15, Tryz.ntmps15
 go_upto_region 3 with (fail)
 go_region
 all_goals
  go_wp2_with fail
  go_returns
  exact ⟨rfl, below_drew' (Below.refl _ _)⟩
theorem lmin_pos {c : Nat} : ∀ (l : List Nat) (a : Nat), (∀ m ∈ l, c ≤ m) → (a = 0 ∨ c ≤ a) → ((l = [] ∧ l.foldl lmin a = a) ∨ c ≤ l.foldl lmin a)
 | [], _, _, _ => Or.inl ⟨rfl, rfl⟩
 | m :: l, a, h, ha => by
  have hm := h m (by simp)
  have h1 : c ≤ lmin a m := by
   unfold lmin
   split
   ·exact hm
   ·rename_i q
    rcases ha with e | e
    ·exact absurd (Or.inl e) q
    ·exact e
  rcases lmin_pos l (lmin a m) (fun x hx => h x (List.mem_cons_of_mem _ hx)) (Or.inr h1) with ⟨-, e⟩ | e
  ·exact Or.inr (by show c ≤ l.foldl lmin (lmin a m); rw [e]; exact h1)
  ·exact Or.inr e
theorem sum_least {c : Nat} : ∀ (l : List Nat), (∀ m ∈ l, c ≤ m) → l.length * c ≤ l.sum
 | [], _ => by simp
 | m :: l, h => by
  have h1 := sum_least l fun x hx => h x (List.mem_cons_of_mem _ hx)
  have h2 := h m (by simp)
  rw [List.length_cons, List.sum_cons, Nat.add_mul]
  omega
theorem nodup_len {α : Type} [DecidableEq α] : ∀ {a b : List α}, a.Nodup → (∀ x ∈ a, x ∈ b) → a.length ≤ b.length
 | [], b, _, _ => Nat.zero_le _
 | x :: a, b, h, k => by
  obtain ⟨h1, h2⟩ := List.nodup_cons.1 h
  have hx := k x (by simp)
  have h3 := nodup_len (a := a) (b := b.erase x) h2 fun y hy => (List.mem_erase_of_ne (fun e => h1 (by rw [← e]; exact hy))).2 (k y (List.mem_cons_of_mem _ hy))
  have h4 := List.length_erase_of_mem hx
  have h5 : 0 < b.length := List.length_pos_of_mem hx
  rw [List.length_cons]
  omega
theorem accE_all {most : Int} : ∀ (l outs : List Ent), (outs.length : Int) + l.length ≤ most → accE most outs l = outs ++ l
 | [], outs, _ => by show outs = _; simp
 | e :: l, outs, h => by
  rw [List.length_cons] at h
  have h1 : addE most outs e = outs ++ [e] := by unfold addE; rw [if_pos (by omega)]
  show accE most (addE most outs e) l = _
  rw [h1, accE_all l (outs ++ [e]) (by rw [List.length_append, List.length_singleton]; omega), List.append_assoc]
  rfl
theorem accP_all {most : Int} (l : List Ent) (h : (l.length : Int) ≤ most) : accP most [] [] [] l = l := by
 unfold accP
 rw [List.filter_eq_self.2 (fun e _ => within_all e.key), accE_all l [] (by simpa using h)]
 rfl
theorem act_put {k : List UInt8} (h : (Upd.mk 1 k [118] 0).check = 0) (o : Option (List UInt8)) : actE ⟨1, k, [118], 0⟩ o = some [118] := by
 cases o with
 | none => rw [actE_none h]; rfl
 | some x => rw [actE_some h]; rfl
theorem ents_len {l : List Ent} {ks : List (List UInt8)} (hr : Rising Ent.key l) (hn : ks.Nodup) (h : ∀ q, lookE l q = if q ∈ ks then some [118] else none) : l.length = ks.length := by
 have h1 : (l.map Ent.key).Nodup := by
  rw [List.Nodup, List.pairwise_map]
  exact hr.imp fun hb => bl_ne hb
 have h2 : ∀ x ∈ l.map Ent.key, x ∈ ks := fun x hx => by
  obtain ⟨e, he, rfl⟩ := List.mem_map.1 hx
  have h3 := lookE_mem hr e he
  rw [h] at h3
  by_cases hm : e.key ∈ ks
  ·exact hm
  ·rw [if_neg hm] at h3; cases h3
 have h3 : ∀ x ∈ ks, x ∈ l.map Ent.key := fun x hx => by
  have h4 := h x
  rw [if_pos hx] at h4
  exact List.mem_map.2 ⟨_, mem_lookE h4, rfl⟩
 have h4 := nodup_len h1 h2
 have h5 := nodup_len hn h3
 rw [List.length_map] at h4 h5
 omega
structure FSt (K : Kx) (n : Nat) (w : World) (v : Vt) (T : Tx) (w0 : World) (j high : Nat) (ks : List (List UInt8)) : Prop where
 inv : Inv K n w v T w0 j
 hb : n + 1 ≤ high
 fl : T.fl * (K.B / K.F) + om n v ≤ j * (high - 1)
 le : (T.fl = 0 ∧ T.le = 0) ∨ K.B / K.F ≤ T.le
 den : ∀ q, den n v q = if q ∈ ks then some [118] else none
 nd : ks.Nodup
 kl : ks.length ≤ j
theorem fst_next {K : Kx} {n n1 : Nat} {w w1 w0 : World} {v v1 : Vt} {T T1 : Tx} {g : List Int} {l : List Nat} {j high : Nat} {ks : List (List UInt8)} {k : List UInt8} (s : FSt K n w v T w0 j high ks) (hck : (Upd.mk 1 k [118] 0).check = 0) (a : AP K n w v T ⟨1, k, [118], 0⟩ n1 w1 v1 T1 g l) (i : Inv K n1 w1 v1 T1 w0 (j + 1)) : FSt K n1 w1 v1 T1 w0 (j + 1) (max high (n1 + 1)) (addK k ks) := by
 have hm : ∀ m ∈ l, K.B / K.F ≤ m := by
  rcases a.gd s.inv.gd with q | ⟨-, q⟩
  ·rw [s.inv.wr] at q; exact absurd q (Nat.lt_irrefl 0)
  ·exact q
 have h1 := sum_least l hm
 have h2 := a.om
 have h3 := a.fl
 have h4 := s.fl
 refine ⟨i, Nat.le_max_right _ _, ?_, ?_, fun q => ?_, ?_, ?_⟩
 ·rw [h3, Nat.add_mul]
  have h5 : j * (high - 1) ≤ j * (max high (n1 + 1) - 1) := Nat.mul_le_mul_left _ (by omega)
  have h6 : (j + 1) * (max high (n1 + 1) - 1) = j * (max high (n1 + 1) - 1) + (max high (n1 + 1) - 1) := by rw [Nat.add_mul, Nat.one_mul]
  have h7 : n1 ≤ max high (n1 + 1) - 1 := by omega
  omega
 ·rw [a.le]
  have h5 : T.le = 0 ∨ K.B / K.F ≤ T.le := s.le.imp (fun q => q.2) id
  rcases lmin_pos l T.le hm h5 with ⟨e1, e2⟩ | e
  ·rw [e2]
   rcases s.le with ⟨q1, q2⟩ | q
   ·exact Or.inl ⟨by rw [h3, e1, q1]; rfl, q2⟩
   ·exact Or.inr q
  ·exact Or.inr e
 ·rw [a.den q, s.den q, getL_cons, getL_nil]
  show actO (if k = q then some (⟨1, k, [118], 0⟩ : Upd) else none) _ = _
  by_cases e : k = q
  ·rw [if_pos e, if_pos ((mem_addK k ks q).2 (Or.inl e))]
   exact act_put hck _
  ·rw [if_neg e]
   show (if q ∈ ks then some [118] else none) = _
   by_cases m : q ∈ ks
   ·rw [if_pos m, if_pos ((mem_addK k ks q).2 (Or.inr m))]
   ·rw [if_neg m, if_neg (fun h => ((mem_addK k ks q).1 h).elim e m)]
 ·unfold addK
  split
  ·exact s.nd
  ·rename_i q; exact List.nodup_cons.2 ⟨q, s.nd⟩
 ·have := s.kl
  unfold addK
  split
  ·omega
  ·rw [List.length_cons]; omega
def FInv (K : Kx) (w w0 : World) (j high : Nat) (ks : List (List UInt8)) : Prop := ∃ n v T, FSt K n w v T w0 j high ks
theorem FInv.on {K : Kx} {w w1 w0 : World} {j high : Nat} {ks : List (List UInt8)} (h : FInv K w w0 j high ks) (hb : Below w.heap.size w w1) : FInv K w1 w0 j high ks := by
 obtain ⟨n, v, T, s⟩ := h
 exact ⟨n, v, T, s.inv.on hb, s.hb, s.fl, s.le, s.den, s.nd, s.kl⟩
theorem FInv.below {K : Kx} {w w0 : World} {j high : Nat} {ks : List (List UInt8)} (h : FInv K w w0 j high ks) : Below w0.heap.size w0 w := by
 obtain ⟨n, v, T, s⟩ := h
 exact s.inv.st.b
theorem tree_rows {K : Kx} {n : Nat} {w : World} {v : Vt} {T : Tx} (t : TrOk K n w v T) {x : Nat} (hx : Own K T x ∨ x ∈ blocks n v) : ∃ E cur, RowIs w E x cur ∧ (E = 110 ∨ E = 27 ∨ E = 3 ∨ E = 108) := by
 rcases hx with (q | q | q) | q
 ·rw [q]; exact ⟨_, _, t.c.tr.row, Or.inl rfl⟩
 ·rw [q]; exact ⟨_, _, t.c.sh.row, Or.inr (Or.inl rfl)⟩
 ·obtain ⟨cur, hc⟩ := own_rowIs t.c.gn.own x q
  exact ⟨_, cur, hc, Or.inr (Or.inr (Or.inl rfl))⟩
 ·obtain ⟨cur, hc⟩ := t.m.cells x q
  exact ⟨_, cur, hc, Or.inr (Or.inr (Or.inr rfl))⟩
theorem KyMap.soft {w : World} {b n : Nat} {ks : List (List UInt8)} (h : KyMap w b n ks) : Soft w b := by
 refine ⟨fun o q e => ?_, fun cur hr => h.noRow hr⟩
 obtain ⟨D, ⟨es, clock, hb, _⟩, _⟩ := h
 unfold World.cell? at e
 rw [hb] at e
 simp at e
theorem TrOk.keepMap {K : Kx} {n : Nat} {w w' : World} {v : Vt} {T : Tx} {kb m : Nat} {ks : List (List UInt8)} (t : TrOk K n w v T) (hk : Keep (fun x => x = kb) w w') (hm : KyMap w kb m ks) (hne : K.mb ≠ kb) : TrOk K n w' v T := by
 have hn : ∀ {E : TypeId} {x : Nat} {cur : List Value}, RowIs w E x cur → ¬ x = kb := fun hr e => hm.noRow (e ▸ hr)
 refine ⟨⟨⟨hk.row t.c.tr.row (hn t.c.tr.row)⟩, t.c.gn.keep hk fun x e => ?_, t.c.sh.keep hk (hn t.c.sh.row) hne⟩, t.m.keep hk (fun b e => by rw [show b = kb from e]; exact hm.soft) fun b hb => ?_, t.nd, t.ok, t.sh, t.pot, t.wr, t.gone, t.fl⟩
 ·obtain ⟨cur, hc⟩ := own_rowIs t.c.gn.own x e
  exact hn hc
 ·obtain ⟨cur, hc⟩ := t.m.cells b hb
  exact hn hc
def FS2 (K : Kx) (w w0 : World) (j high : Nat) (ks : List (List UInt8)) (n fl le : Nat) : Prop := ∃ v T, FSt K n w v T w0 j high ks ∧ T.fl = fl ∧ T.le = le
section
variable {K : Kx} {w w1 w0 : World} {j high : Nat} {ks : List (List UInt8)} {n fl le : Nat}
theorem FS2.on (h : FS2 K w w0 j high ks n fl le) (hb : Below w.heap.size w w1) : FS2 K w1 w0 j high ks n fl le := by
 obtain ⟨v, T, s, e⟩ := h
 exact ⟨v, T, ⟨s.inv.on hb, s.hb, s.fl, s.le, s.den, s.nd, s.kl⟩, e⟩
theorem FS2.keepMap {kb m : Nat} {ks' : List (List UInt8)} (h : FS2 K w w0 j high ks n fl le) (hk : Keep (fun x => x = kb) w w1) (hm : KyMap w kb m ks') (hne : K.mb ≠ kb) (hw : w0.heap.size ≤ kb) : FS2 K w1 w0 j high ks n fl le := by
 obtain ⟨v, T, s, e⟩ := h
 have i := s.inv
 exact ⟨v, T, ⟨⟨⟨i.st.ok.keepMap hk hm hne, i.st.lo, i.st.b.trans (hk.below i.st.b.size fun x hx => by rw [show x = kb from hx]; exact hw)⟩, i.pot, i.fl, i.gd, i.wr⟩, s.hb, s.fl, s.le, s.den, s.nd, s.kl⟩, e⟩
theorem FS2.height (h : FS2 K w w0 j high ks n fl le) : Calls Tryz.prog 14 #[.pointer (some ⟨K.tb, 0, none⟩)] w (fun e w3 => e = .returned (.int .i64 ((n : Int) + 1)) ∧ Below w.heap.size w w3) := by
 obtain ⟨v, T, s, -⟩ := h
 refine (height_any w s.inv.st.ok.c.tr).mono ?_
 rintro e w3 ⟨rfl, hb⟩
 exact ⟨by rw [Int.natCast_add]; rfl, hb⟩
theorem FS2.flushes (h : FS2 K w w0 j high ks n fl le) : Calls Tryz.prog 15 #[.pointer (some ⟨K.tb, 0, none⟩)] w (fun e w3 => e = .returned (.tuple #[.int .i64 fl, .int .i64 le]) ∧ Below w.heap.size w w3) := by
 obtain ⟨v, T, s, rfl, rfl⟩ := h
 exact flushes_tree w s.inv.st.ok.c.tr
theorem FS2.inv (h : FS2 K w w0 j high ks n fl le) : FInv K w w0 j high ks := by
 obtain ⟨v, T, s, -⟩ := h
 exact ⟨n, v, T, s⟩
end
structure FOut (K : Kx) (w w0 : World) (j high : Nat) (ks : List (List UInt8)) (k : List UInt8) (w' : World) (n1 fl le : Nat) : Prop where
 h8 : n1 ≤ 8
 le2 : fl = 0 ∨ K.B / K.F ≤ le
 fl2 : fl * (K.B / K.F) ≤ (j + 1) * max high (n1 + 1)
 inv : FS2 K w' w0 (j + 1) (max high (n1 + 1)) (addK k ks) n1 fl le
 map : ∀ b n ks, KyMap w b n ks → KyMap w' b n ks
 row : ∀ b cur, RowIs w 29 b cur → RowIs w' 29 b cur
theorem FInv.walk {K : Kx} {w w0 : World} {j high : Nat} {ks : List (List UInt8)} (h : FInv K w w0 j high ks) (hP : PlanOk K) (hB : 1 ≤ K.B / K.F) (hj : j ≤ 200) (k : List UInt8) (hk1 : 1 ≤ k.length) (hk3 : k.length ≤ 3) :
  Calls Tryz.prog 13 #[.pointer (some ⟨K.tb, 0, none⟩), .agg #[.int .u8 1, .string (S k), .string (S [118]), .int .u64 0]] w fun e w' => e = .returned (.int .i64 0) ∧ ∃ n1 fl le, FOut K w w0 j high ks k w' n1 fl le := by
 obtain ⟨n, v, T, s⟩ := h
 have hu : Tm ⟨1, k, [118], 0⟩ := ⟨⟨by simp, by simp⟩, Or.inl rfl, Or.inl rfl, Or.inr rfl, hk3, hk1, by simp⟩
 refine (s.inv.walk hP hB hj hu).mono ?_
 rintro e w' ⟨rfl, n1, v1, T1, g, l, a, i⟩
 have f := fst_next s hu.check a i
 have hfl := f.fl
 have h1 : (j + 1) * (max high (n1 + 1) - 1) ≤ (j + 1) * max high (n1 + 1) := Nat.mul_le_mul_left _ (Nat.sub_le _ _)
 refine ⟨rfl, n1, T1.fl, T1.le, i.st.ok.n8, f.le.imp (fun q => q.1) id, by omega, ⟨v1, T1, f, rfl, rfl⟩, fun b n ks hm => hm.keep a.keep fun q => ?_, fun b cur hr => a.keep.row hr fun q => ?_⟩
 ·obtain ⟨E, cur, hr, -⟩ := tree_rows s.inv.st.ok q
  exact hm.noRow hr
 ·obtain ⟨E, cur', hr', he⟩ := tree_rows s.inv.st.ok q
  have := (hr.one hr').1
  subst this
  rcases he with e | e | e | e <;> exact absurd e (by decide)
theorem FInv.scan {K : Kx} {w w0 : World} {j high : Nat} {ks : List (List UInt8)} (h : FInv K w w0 j high ks) (hN : Near K.f) (hj : j ≤ 1000) :
  Calls Tryz.prog 17 #[.pointer (some ⟨K.tb, 0, none⟩), .string ⟨#[]⟩, .string ⟨#[]⟩, .int .i64 1000] w fun e w' => (∃ oa oc, e = .returned (.tuple #[.slice oa ks.length oc, .int .i64 0])) ∧ Keep (fun x => x = K.sb) w w' ∧ Below w0.heap.size w0 w' ∧ ∀ b n ks, KyMap w b n ks → KyMap w' b n ks := by
 obtain ⟨n, v, T, s⟩ := h
 have h4 : Calls Tryz.prog 17 #[.pointer (some ⟨K.tb, 0, none⟩), .string (S []), .string (S []), .int .i64 1000] w fun e w' => ScanOut K n w v T [] [] 1000 e w' := scan_any [] [] 1000 w s.inv.st.ok hN (by omega)
 obtain ⟨e1, -, e3⟩ := en_all s.inv.st.ok.ok
 have hlen := ents_len e1 s.nd (fun q => (e3 q).trans (s.den q))
 have hkl := s.kl
 have hacc := accP_all (most := 1000) (en n v) (by omega)
 refine Calls.mono h4 ?_
 rintro e w' ⟨wr', k1, k2, k3, ⟨-, k4⟩ | ⟨oa, oc, rfl, -, -⟩⟩
 ·rw [s.inv.wr] at k4
  exact absurd k4 (Nat.lt_irrefl 0)
 ·refine ⟨⟨oa, oc, ?_⟩, k3, (s.inv.st.load k2 k3).b, fun b n ks hm => hm.keep k3 fun q => ?_⟩
  ·rw [hacc, hlen]
  ·have q' : b = K.sb := q
   rw [q'] at hm
   exact hm.noRow s.inv.st.ok.c.sh.row
theorem FInv.new {w0 w : World} {tb vb sb mb F B L : Nat} (h : Inv (newK tb sb mb F B L) 0 w (newV vb) newT w0 0) : FInv (newK tb sb mb F B L) w w0 0 1 [] :=
 ⟨0, newV vb, newT, h, Nat.le_refl _, by show 0 * _ + 0 ≤ 0 * _; omega, Or.inl ⟨rfl, rfl⟩, fun q => by rw [den_zero]; rfl, List.nodup_nil, Nat.le_refl _⟩
open Go.RowKit
attribute [local go_sem ↓] Go.wp_at_zero Go.wp_at_succ
theorem least49 : PlanL.least 4 9 4 = 2 := by decide
theorem treeFlushes_walk (ao : Option Addr) (c0 : Nat) (l : List Int) (st : Int) (w : World) (hsl : SlAt (fun x : Int => [Value.int .u8 x]) 1 w ao l) (hu : ∀ x ∈ l, 0 ≤ x ∧ x < 256) :
  Calls Tryz.prog 3 #[.slice ao l.length c0, .int .u8 st] w fun e w' => e = .returned (.bool true) ∧ Below w.heap.size w w' := by
 have hmm := @run_makeMap Tryz.prog
 have hmax := fun ts t a b w => run_bmax (P := Tryz.prog) ts t a b w
 have hcv2 := fun w n c => run_str2 (P := Tryz.prog) 22 9 5 Tryz.underlying22 Tryz.underlying5 Tryz.underlying9 w n c
 have HL := Lib.hid (And.intro hsl hu)
 clear hsl hu
 obtain ⟨nl, hnl⟩ : ∃ nl, nl = l.length := ⟨_, rfl⟩
 rw [← hnl]
 have HNL := Lib.hid hnl
 clear hnl
 go_enter Tryz.func3, Tryz.ntmps3
 go_upto_region 3 with (fail)
 obtain ⟨W, hW⟩ : ∃ W, W = ((w.alloc (.map #[] 0)).alloc (.cells #[.map (some w.heap.size), .int .u64 0, .int .i64 0] 27)).alloc (.cells #[.int .i64 4, .int .i64 9, .int .i64 4] 29) := ⟨_, rfl⟩
 have hb0 : Below w.heap.size w W := by rw [hW]; exact (((Below.refl _ w).alloc (Nat.le_refl _) _).alloc (by simp) _).alloc (by simp; omega) _
 have hS : ShelfAt W (w.heap.size + 1) w.heap.size 0 0 (fun _ => none) 0 0 := by
  rw [hW]
  exact (show ShelfAt ((w.alloc (.map #[] 0)).alloc (.cells #[.map (some w.heap.size), .int .u64 0, .int .i64 0] 27)) (w.heap.size + 1) w.heap.size 0 0 (fun _ => none) 0 0 from ⟨RowIs.new' _ _ _ _ (by simp), (ShMap.made w).on ((Below.refl _ _).alloc (Nat.le_refl _) _)⟩).on ((Below.refl _ _).alloc (Nat.le_refl _) _)
 have HP := Lib.hid (show RowIs W 29 (w.heap.size + 1 + 1) [.int .i64 4, .int .i64 9, .int .i64 4] by
  rw [hW]
  exact RowIs.new' _ _ _ _ (by simp))
 rw [← hW]
 clear hW
 obtain ⟨pb, hpb⟩ : ∃ pb, pb = w.heap.size + 1 + 1 := ⟨_, rfl⟩
 obtain ⟨sb, hsb⟩ : ∃ sb, sb = w.heap.size + 1 := ⟨_, rfl⟩
 obtain ⟨mb, hmb⟩ : ∃ mb, mb = w.heap.size := ⟨_, rfl⟩
 rw [← hpb] at HP ⊢
 rw [← hsb] at hS ⊢
 rw [← hmb] at hS
 have hsb' : w.heap.size ≤ sb := by omega
 clear hsb hmb hpb
 have p0 : W.cell? ⟨pb, 0, none⟩ = some (.int .i64 4) := HP.out.cell 0
 have p1 : W.cell? ⟨pb, 1, none⟩ = some (.int .i64 9) := HP.out.cell 1
 have p2 : W.cell? ⟨pb, 2, none⟩ = some (.int .i64 4) := HP.out.cell 2
 go_wp2_with fail
 refine (new_any 4 9 4 (.func 11) #[.pointer (some ⟨sb, 0, none⟩)] #[] W).mono ?_
 rintro e w2 ⟨rfl, ht2, hv2, hX2⟩
 obtain ⟨tb, htb⟩ : ∃ tb, tb = W.heap.size + 1 + 1 := ⟨_, rfl⟩
 obtain ⟨b, hbb⟩ : ∃ b, b = W.heap.size + 1 := ⟨_, rfl⟩
 rw [← htb] at ht2 ⊢
 rw [← hbb] at ht2 hv2
 have htb' : W.heap.size ≤ tb := by omega
 have hbb' : W.heap.size ≤ b := by omega
 clear htb hbb
 have hbx := hb0.size
 have HI2 := Lib.hid (show Inv (newK tb sb mb 4 9 4) 0 w2 (newV b) newT w 0 from Inv.new ht2 hv2 (hS.on hX2) (hb0.trans (hX2.mono hb0.size)) (by omega) (by omega) (by omega))
 obtain ⟨K, hK⟩ : ∃ K, K = newK tb sb mb 4 9 4 := ⟨_, rfl⟩
 have HKK := Lib.hid (show K.tb = tb ∧ K.B / K.F = 2 ∧ PlanOk K by rw [hK]; exact ⟨rfl, by show 9 / 4 = 2; rfl, plan_new (by omega) (by omega) (by omega) (by omega) (by omega) (by omega)⟩)
 have HV2 := Lib.hid (show FInv K w2 w 0 1 [] from by rw [hK]; exact FInv.new HI2.out)
 have HP2 := Lib.hid (HP.out.on hX2)
 clear ht2 hv2 hX2 hS hb0 hK HI2 hsb' htb' hbb' hbx p0 p1 p2 HP
 go_upto_region 4 with (fail)
 go_wp2_with fail
 refine (wakes21 w2).mono ?_
 rintro e w3 ⟨rfl, hX3⟩
 have HV3 := Lib.hid (HV2.out.on hX3)
 have HP3 := Lib.hid (HP2.out.on hX3)
 clear hX3 HV2 HP2
 go_upto_region 7 with (fail)
 obtain ⟨W4, hW4⟩ : ∃ W4, W4 = w3.alloc (.map #[] 0) := ⟨_, rfl⟩
 have hX4 : Below w3.heap.size w3 W4 := by rw [hW4]; go_grown
 obtain ⟨kb, hkb⟩ : ∃ kb, kb = w3.heap.size := ⟨_, rfl⟩
 have HM4 := Lib.hid (show KyMap W4 kb 0 [] by rw [hW4, hkb]; exact KyMap.made w3)
 have HV4 := Lib.hid (HV3.out.on hX4)
 have HP4 := Lib.hid (HP3.out.on hX4)
 rw [← hW4, ← hkb]
 have hmk : K.mb ≠ kb := by
  obtain ⟨n, v, T, s⟩ := HV3.out
  have := s.inv.st.ok.c.sh.map.lt
  omega
 have hkw : w.heap.size ≤ kb := by rw [hkb]; exact HV3.out.below.size
 clear hW4 hX4 hkb HV3 HP3
 go_wp2_with fail
 go_loopw [33, 9, 10] (fun i s9 s10 wr => ∃ (j high : Nat) (ks : List (List UInt8)), i = .int .i64 j ∧ s9 = .int .i64 j ∧ s10 = .int .i64 high ∧ j ≤ 200 ∧ high ≤ 12 ∧ Hid (FInv K wr w j high ks) ∧ Hid (KyMap wr kb j ks) ∧ Hid (RowIs wr 29 pb [.int .i64 4, .int .i64 9, .int .i64 4])) (fun i _ _ _ => 200 - (intOf i).toNat)
 case atStart => exact ⟨0, 1, [], rfl, rfl, rfl, by omega, by omega, HV4, HM4, HP4⟩
 case round =>
  obtain ⟨j, high, ks, rfl, rfl, rfl, hj, hh, HJ, HM, HPR⟩ := hrel
  have hj0 : (0 : Int) ≤ (j : Int) := Int.natCast_nonneg _
  by_cases hjm : j < 200
  ·have hj1 : (j : Int) < 200 := by omega
   have HLB := Lib.hid HJ.out.below
   obtain ⟨x0, hx0, hx0b⟩ : ∃ x0 : Nat, (j : Int) * (2 * st % 256 + 1) % 256 = (x0 : Int) ∧ x0 < 256 := ⟨((j : Int) * (2 * st % 256 + 1) % 256).toNat, by omega, by omega⟩
   have HX0 := Lib.hid hx0
   clear hx0
   go_upto_if 45 with (fail)
   go_cut [12] from 43 to 49 (fun s12 wx => ∃ x : Nat, s12 = .int .u8 x ∧ x < 256 ∧ wx = wr)
   case first =>
    by_cases hjl : j < nl
    ·have hjl1 : (j : Int) < (nl : Int) := by omega
     obtain ⟨hsl, hu⟩ := HL.out
     have hjl2 : j < l.length := by rw [← HNL.out]; exact hjl
     obtain ⟨bb, off, rfl, hbl, hcc⟩ := hsl.at (by omega)
     have hc1 := hcc j hjl2 0 _ rfl
     obtain ⟨y, hy⟩ : ∃ y : Nat, l[j] = (y : Int) := ⟨l[j].toNat, by have := hu _ (List.getElem_mem hjl2); omega⟩
     have hy2 : y < 256 := by have := hu _ (List.getElem_mem hjl2); omega
     have q0 : wr.cell? ⟨bb, off + j * 1, none⟩ = some (.int .u8 (y : Int)) := by
      have := (cell_below HLB.out hbl _).trans hc1
      rw [hy] at this
      exact this
     rw [Nat.mul_one] at q0
     clear hcc hc1 hy hu hsl
     go_wp2_with fail
     go_meet
     exact ⟨y, rfl, hy2, rfl⟩
    ·have hjl1 : ¬ (j : Int) < (nl : Int) := by omega
     go_wp2_with fail
     go_meet
     exact ⟨x0, by rw [HX0.out], hx0b, rfl⟩
   case rest =>
   obtain ⟨x, rfl, hx, rfl⟩ := hcut
   obtain ⟨w5, hw5⟩ : ∃ w5, w5 = wc := ⟨_, rfl⟩
   subst hw5
   obtain ⟨r, hr⟩ : ∃ r, r = j % 3 := ⟨_, rfl⟩
   have h3 : (j : Int).tmod 3 = (r : Int) := by rw [Int.tmod_eq_emod_of_nonneg (by omega), hr]; omega
   have w3 : IntKind.i64.wrap (r : Int) = (r : Int) := IntWalk.i64_in _ (by omega)
   have w8 : IntKind.u8.wrap (r : Int) = (r : Int) := IntWalk.u8_in _ (by omega)
   obtain ⟨k, hk⟩ : ∃ k : List UInt8, k = [UInt8.ofNat x, UInt8.ofNat r] := ⟨_, rfl⟩
   have hk2 : k.length = 2 := by rw [hk]; rfl
   have HK := Lib.hid hk
   clear hk hr HX0
   go_upto_region 14 with (fail)
   go_cut [13] from 50 to 55 (fun s13 wx => s13 = .string (S k) ∧ Hid (Below w5.heap.size w5 wx))
   case first =>
    go_wp2_with fail
    go_meet
    exact ⟨by rw [HK.out], Lib.hid (by go_grown)⟩
   case rest =>
   obtain ⟨rfl, HB5⟩ := hcut
   obtain ⟨w6, hw6⟩ : ∃ w6, w6 = wc := ⟨_, rfl⟩
   subst hw6
   clear h3 w3 w8 HK hx
   have HAP := Lib.hid (show Calls Tryz.prog 13 #[.pointer (some ⟨tb, 0, none⟩), .agg #[.int .u8 1, .string (S k), .string ⟨#[118]⟩, .int .u64 0]] w6 (fun e w' => e = .returned (.int .i64 0) ∧ ∃ n1 fl le, FOut K w6 w j high ks k w' n1 fl le) from by
    have := (HJ.out.on HB5.out).walk HKK.out.2.2 (by rw [HKK.out.2.1]; decide) (by omega) k (by omega) (by omega)
    rw [HKK.out.1] at this
    exact this)
   go_wp2_with fail
   refine HAP.out.mono ?_
   rintro e w7 ⟨rfl, n1, fl, le, hf⟩
   have hM7 := hf.map kb j ks (HM.out.on HB5.out)
   have hP7 := hf.row pb _ (HPR.out.on HB5.out)
   obtain ⟨w8, hrun, hm8, hg8⟩ := hM7.put (by omega) k (by omega)
   have hKp : Keep (fun x => x = kb) w7 w8 := (Keep.refl (fun x => x = kb) w7).grown hg8 fun y e => Or.inl (by simpa using e.symm)
   have HF8 := Lib.hid (hf.inv.keepMap hKp hM7 hmk hkw)
   have HP8 := Lib.hid (hKp.row hP7 fun e => hM7.noRow (by rw [← show pb = kb from e]; exact hP7))
   have HM8 := Lib.hid hm8
   obtain ⟨hi2, hhi2⟩ : ∃ hi2, hi2 = max high (n1 + 1) := ⟨_, rfl⟩
   have hmx : bmax (high : Int) ((n1 : Int) + 1) = (hi2 : Int) := by rw [hhi2]; have := bmax_nat high (n1 + 1); rw [← this]; simp
   have hfl2 := hf.fl2
   have hle2 := hf.le2
   have hn8 := hf.h8
   rw [HKK.out.2.1, ← hhi2] at hfl2
   rw [HKK.out.2.1] at hle2
   rw [← hhi2] at HF8
   have hhi12 : hi2 ≤ 12 := by omega
   have hprod : (j + 1) * hi2 ≤ 200 * 12 := Nat.mul_le_mul (by omega) hhi12
   obtain ⟨pr, hpr⟩ : ∃ pr, pr = (j + 1) * hi2 := ⟨_, rfl⟩
   have hpr2 : ((j : Int) + 1) * (hi2 : Int) = (pr : Int) := by rw [hpr, Int.natCast_mul, Int.natCast_add]; rfl
   rw [← hpr] at hfl2 hprod
   have HC := Lib.hid hpr2
   clear hf hM7 hP7 hg8 hKp hm8 HM HPR HJ HAP HB5 hhi2 hpr hpr2 HLB
   go_upto_region 17 with (fail)
   go_wp2_with fail
   clear hrun
   refine (show Calls Tryz.prog 14 #[.pointer (some ⟨tb, 0, none⟩)] w8 _ from HKK.out.1 ▸ HF8.out.height).mono ?_
   rintro e w9 ⟨rfl, hX9⟩
   have HF9 := Lib.hid (HF8.out.on hX9)
   have HP9 := Lib.hid (HP8.out.on hX9)
   have HM9 := Lib.hid (HM8.out.on hX9)
   clear hX9 HF8 HP8 HM8
   go_wp2_with fail
   refine (show Calls Tryz.prog 15 #[.pointer (some ⟨tb, 0, none⟩)] w9 _ from HKK.out.1 ▸ HF9.out.flushes).mono ?_
   rintro e w10 ⟨rfl, hX10⟩
   have HF10 := Lib.hid (HF9.out.on hX10)
   have HP10 := Lib.hid (HP9.out.on hX10)
   have HM10 := Lib.hid (HM9.out.on hX10)
   clear hX10 HF9 HP9 HM9 hmx
   go_upto_region 21 with (fail)
   have p0 : w10.cell? ⟨pb, 0, none⟩ = some (.int .i64 4) := HP10.out.cell 0
   have p1 : w10.cell? ⟨pb, 1, none⟩ = some (.int .i64 9) := HP10.out.cell 1
   have p2 : w10.cell? ⟨pb, 2, none⟩ = some (.int .i64 4) := HP10.out.cell 2
   have HLE := Lib.hid (fun w' => show Calls Tryz.prog 16 #[.agg #[.int .i64 4, .int .i64 9, .int .i64 4]] w' (fun e w'' => e = .returned (.int .i64 2) ∧ Below w'.heap.size w' w'') from least49 ▸ least_any 4 9 4 w')
   have HHE := Lib.hid (fun w2 (hb : Below w10.heap.size w10 w2) => show Calls Tryz.prog 14 #[.pointer (some ⟨tb, 0, none⟩)] w2 (fun e w3 => e = .returned (.int .i64 ((n1 : Int) + 1)) ∧ Below w2.heap.size w2 w3) from HKK.out.1 ▸ (HF10.out.on hb).height)
   have w86 : IntKind.i64.wrap ((fl : Int) * 2) = (fl : Int) * 2 := IntWalk.i64_in _ (by omega)
   have w89 : IntKind.i64.wrap (((j : Int) + 1) * (hi2 : Int)) = ((j : Int) + 1) * (hi2 : Int) := by rw [HC.out]; exact IntWalk.i64_in _ (by omega)
   have d90 : decide (((j : Int) + 1) * (hi2 : Int) < (fl : Int) * 2) = false := by rw [HC.out]; simp; omega
   have d95 : decide ((12 : Int) < (n1 : Int) + 1) = false := by simp; omega
   rcases Nat.eq_zero_or_pos fl with hz | hz
   ·subst hz
    have d90 : ¬ (((j : Int) + 1) * (hi2 : Int) < 0) := by rw [HC.out]; omega
    clear hfl2 hle2 hprod
    go_wp2_with fail
    refine (HLE.out _).mono ?_
    rintro e w11 ⟨rfl, hX11⟩
    go_wp2_with fail
    refine (HHE.out _ hX11).mono ?_
    rintro e w12 ⟨rfl, hX12⟩
    have HXL := Lib.hid (hX11.trans (hX12.mono hX11.size))
    have HF11 := Lib.hid (HF10.out.on HXL.out)
    have HP11 := Lib.hid (HP10.out.on HXL.out)
    have HM11 := Lib.hid (HM10.out.on HXL.out)
    clear p0 p1 p2
    go_wp2_with fail
    exact ⟨⟨j + 1, hi2, addK k ks, by go_num, by go_num, rfl, by omega, by omega, Lib.hid HF11.out.inv, HM11, HP11⟩, by simp [intOf]; omega⟩
   ·have d75 : decide ((0 : Int) < (fl : Int)) = true := by simp; omega
    have d80 : decide ((le : Int) < 2) = false := by simp; omega
    clear hfl2 hle2 hprod
    go_wp2_with fail
    refine (HLE.out _).mono ?_
    rintro e w11 ⟨rfl, hX11⟩
    have y0 := kept_cell hX11 p0
    have y1 := kept_cell hX11 p1
    have y2 := kept_cell hX11 p2
    go_wp2_with fail
    refine (HLE.out _).mono ?_
    rintro e w12 ⟨rfl, hX12⟩
    have hX102 := hX11.trans (hX12.mono hX11.size)
    go_wp2_with fail
    refine (HHE.out _ hX102).mono ?_
    rintro e w13 ⟨rfl, hX13⟩
    have HXL := Lib.hid (hX102.trans (hX13.mono hX102.size))
    have HF11 := Lib.hid (HF10.out.on HXL.out)
    have HP11 := Lib.hid (HP10.out.on HXL.out)
    have HM11 := Lib.hid (HM10.out.on HXL.out)
    clear p0 p1 p2
    go_wp2_with fail
    exact ⟨⟨j + 1, hi2, addK k ks, by go_num, by go_num, rfl, by omega, by omega, Lib.hid HF11.out.inv, HM11, HP11⟩, by simp [intOf]; omega⟩
  ·obtain rfl : j = 200 := by omega
   have HSC := Lib.hid (show Calls Tryz.prog 17 #[.pointer (some ⟨tb, 0, none⟩), .string ⟨#[]⟩, .string ⟨#[]⟩, .int .i64 1000] wr _ from HKK.out.1 ▸ HJ.out.scan HKK.out.2.2.near (by omega))
   go_upto_region 24 with (fail)
   go_wp2_with fail
   refine HSC.out.mono ?_
   rintro e w5 ⟨⟨oa, oc, rfl⟩, hk, hb, hmp⟩
   have HM5 := Lib.hid (hmp kb _ _ HM.out)
   have HB5 := Lib.hid hb
   clear hk hb hmp
   have hml := fun ty => HM5.out.len ty
   go_upto_region 25 with (fail)
   go_wp2_with fail
   go_ret
   exact ⟨by simp, HB5.out⟩
end Go.Proofs.YtafciefjlkdecaaGreat
