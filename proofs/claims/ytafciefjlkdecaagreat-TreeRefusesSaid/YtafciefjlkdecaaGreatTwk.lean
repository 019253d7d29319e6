/-
  The walk of what the document fixes.
-/
import Derived.Test.YtafciefjlkdecaaGreatTco
import Derived.Test.YtafciefjlkdecaaGreatTrd
namespace Go.Proofs.YtafciefjlkdecaaGreat
open Go.RowKit
attribute [local go_sem ↓] Go.wp_at_zero Go.wp_at_succ

def kEnt : List Ent := [⟨[107], [118]⟩]
theorem kEnt_on : onAll [] [⟨1, [107], [118], 0⟩] = kEnt := by rfl
theorem kEnt_parse : parseE (entText kEnt) = (kEnt, 0) := by rfl
theorem kEnt_text : (entText kEnt).length = 4 := by rfl
theorem kEnt_fine : FineE kEnt := by intro e he; simp [kEnt] at he; subst he; simp
theorem kEnt_rise : Rising Ent.key kEnt := by simp [Rising, kEnt]
theorem kEnt_k : lookE kEnt [107] = some [118] := by rfl
theorem kEnt_z : lookE kEnt [122] = none := by rfl
theorem kEnt_chk : (Upd.mk 1 [107] [118] 0).check = 0 := by rfl

/-- A known root whose block is a leaf's. -/
theorem fetchLeaf_shelf {tb b sb mb n sz : Nat} {F B L : Int} {root : Nat} {h' : Int} {gone : Value} {fl le : Int} {kn : Bool} {lf cs us ks : Value} {f : Int → Option Blk} {gen : Nat} (at' : Nat) (bk : Blk) (ps : Nat) (w : World)
    (ht : TrAt w tb F B L (.func (.func 11) #[.pointer (some ⟨sb, 0, none⟩)] #[]) root h' gone fl le) (hv : VxAt w b kn at' bk.gen ps false lf cs us ks) (hs : ShelfAt w sb mb n sz f gen 0) (ha : at' < 1000000) (hf : f (at' : Int) = some bk) (hk : bk.kind = 4) (hp : bk.pay.length ≤ 100000) (es : List Ent) (hpe : parseE bk.pay = (es, 0)) : FetchLeaf tb b es true w := by
  intro w1 hX
  have hl : LoadIs 11 #[.pointer (some ⟨sb, 0, none⟩)] #[] at' bk.gen ps bk.kind bk.pay 0 w1 :=
    ⟨enters_of Tryz.func11 (by kernel_rfl) rfl, fun w2 hX2 => by
      have := load_yes at' ps bk w2 ((hs.on hX).on hX2) ha hf
      exact this⟩
  refine (fetch_leaf bk.kind bk.pay 1 w1 (ht.on hX) (hv.on hX) hl hk rfl hp 0 es hpe).mono ?_
  rintro e w2 ⟨(⟨-, b', a, c, rfl, -, hv2, hb2⟩ | ⟨h0, -⟩), hX2⟩
  · exact ⟨⟨b', true, at', bk.gen, ps, a, c, _, _, _, rfl, hv2, hb2⟩, hX2⟩
  · exact absurd rfl h0

set_option maxRecDepth 100000 in
set_option maxHeartbeats 4000000 in
theorem wakes21 (w : World) : Calls Tryz.prog 12 #[] w fun e w' => e = .returned (.bool true) ∧ Below w.heap.size w w' := by
  have hmm := @run_makeMap Tryz.prog
  have s1 : (⟨#[107]⟩ : ByteArray) = S [107] := rfl
  have s2 : (⟨#[118]⟩ : ByteArray) = S [118] := rfl
  have s3 : (⟨#[122]⟩ : ByteArray) = S [122] := rfl
  go_enter Tryz.func12, Tryz.ntmps12
  go_upto_region 2 with (fail)
  obtain ⟨W, hW⟩ : ∃ W, W = (w.alloc (.map #[] 0)).alloc (.cells #[.map (some w.heap.size), .int .u64 0, .int .i64 0] 27) := ⟨_, rfl⟩
  have hb0 : Below w.heap.size w W := by rw [hW]; exact ((Below.refl _ w).alloc (Nat.le_refl _) _).alloc (by simp) _
  have hS : ShelfAt W (w.heap.size + 1) w.heap.size 0 0 (fun _ => none) 0 0 := by
    rw [hW]
    exact ⟨RowIs.new' _ _ _ _ (by simp), (ShMap.made w).on ((Below.refl _ _).alloc (Nat.le_refl _) _)⟩
  rw [← hW]
  clear hW
  obtain ⟨sb, hsb⟩ : ∃ sb, sb = w.heap.size + 1 := ⟨_, rfl⟩
  obtain ⟨mb, hmb⟩ : ∃ mb, mb = w.heap.size := ⟨_, rfl⟩
  rw [← hsb] at hS ⊢
  rw [← hmb] at hS
  have hsb' : w.heap.size ≤ sb := by omega
  have hmb' : w.heap.size ≤ mb := by omega
  clear hsb hmb
  replace hS := Lib.hid hS
  go_wp2_with fail
  go_wp2_with fail
  refine (thread (small_any W) W.heap.size W (Below.refl _ _) (Nat.le_refl _)).mono ?_
  rintro e w1 ⟨rfl, hX_w1, -, -, -, hz_w1⟩
  replace hS := Lib.hid (hS.out.kept hX_w1 (Nat.le_refl _))
  replace hb0 := hb0.trans (hX_w1.mono hb0.size)
  clear hX_w1
  go_wp2_with fail
  refine (new_any 3 4 3 (.func 11) #[.pointer (some ⟨sb, 0, none⟩)] #[] w1).mono ?_
  rintro e w2 ⟨rfl, ht2, hv2, hX2⟩
  obtain ⟨tb, htb⟩ : ∃ tb, tb = w1.heap.size + 1 + 1 := ⟨_, rfl⟩
  obtain ⟨b, hbb⟩ : ∃ b, b = w1.heap.size + 1 := ⟨_, rfl⟩
  rw [← htb] at ht2 ⊢
  rw [← hbb] at ht2 hv2
  have htb' : w1.heap.size ≤ tb := by omega
  have hbb' : w1.heap.size ≤ b := by omega
  clear htb hbb
  have hT2 := Lib.hid ht2
  have hV2 := Lib.hid hv2
  have HS2 := Lib.hid (hS.out.on hX2)
  have hb2 := hb0.trans (hX2.mono hb0.size)
  have hbx := hb0.size
  have hsl := hS.out.row.lt
  have hml := hS.out.map.lt
  clear ht2 hv2 hX2 hS hb0
  go_upto_region 3 with (fail)
  rw [s1, s2]
  go_wp2_with fail
  refine (apply_leaf 1 [107] [118] 0 w2 hT2.out hV2.out (es := []) ⟨_, rfl, _, _, rfl, Or.inl rfl, by simp, by simp, fun _ => rfl⟩ (by simp) (by simp [Rising]) (by intro e he; simp at he) (by decide) (by decide) kEnt_chk (by rw [kEnt_on]; simp [kEnt])).mono ?_
  rintro e w3 ⟨rfl, ⟨a3, c3, hv3, hb3⟩, ht3, hK3⟩
  rw [kEnt_on] at hv3 hb3
  have hw1 : sb < w1.heap.size ∧ mb < w1.heap.size := ⟨hsl, hml⟩
  have HS3 := Lib.hid (show ShelfAt w3 sb mb 0 0 (fun _ => none) 0 0 from ⟨hK3.row HS2.out.row (by show ¬ sb = b; omega), by
    have hh := HS2.out.map
    obtain ⟨D, ⟨es0, clock0, hh1, hh2⟩, hh3⟩ := hh
    exact ⟨D, ⟨es0, clock0, (hK3.block mb HS2.out.map.lt (by show ¬ mb = b; omega)).trans hh1, hh2⟩, hh3⟩⟩)
  have hKa := (Keep.of_below (S := fun x => w.heap.size ≤ x) hb2).trans hK3 (fun x hx => Or.inl (by show w.heap.size ≤ x; have : x = b := hx; omega))
  have hT3 := Lib.hid ht3
  have hV3 := Lib.hid hv3
  have HB3 := Lib.hid hb3
  clear ht3 hv3 hb3 hK3 hb2 HS2 hT2 hV2
  go_upto_region 4 with (fail)
  go_wp2_with fail
  refine (commit_leaf 0 w3 hT3.out hV3.out HB3.out rfl (by simp [kEnt]) kEnt_fine HS3.out (by decide) rfl (fun j hj => by omega) (by decide) (by decide)).mono ?_
  rintro e w4 ⟨rfl, hs4, ⟨nb, hnb, ht4, hv4⟩, hK4⟩
  have hKb := hKa.trans hK4 (fun x hx => Or.inl (by show w.heap.size ≤ x; have : x = sb ∨ x = mb ∨ x = tb := hx; omega))
  have hT4 := Lib.hid ht4
  have hV4 := Lib.hid hv4
  have HS4 := Lib.hid hs4
  clear ht4 hv4 hs4 hK4 hT3 hV3 HB3 HS3 hKa
  go_upto_region 5 with (fail)
  obtain ⟨W5, hW5⟩ : ∃ W5, W5 = w4.alloc (.cells #[.int .i64 0, .int .u64 1, .int .u32 0] 54) := ⟨_, rfl⟩
  have hX5 : Below w4.heap.size w4 W5 := by rw [hW5]; exact (Below.refl _ w4).alloc (Nat.le_refl _) _
  have hP5 := Lib.hid (show RwAt W5 54 w4.heap.size [.int .i64 0, .int .u64 1, .int .u32 0] from ⟨by rw [hW5]; exact RowIs.new w4 _ _⟩)
  rw [← hW5]
  clear hW5
  have hT5 := Lib.hid (hT4.out.on hX5)
  have hV5 := Lib.hid (hV4.out.on hX5)
  have HS5 := Lib.hid (HS4.out.on hX5)
  have hK5 := hKb.on hX5
  clear hT4 hV4 HS4 hKb hX5
  have p0 : W5.cell? ⟨w4.heap.size, 0, none⟩ = some (.int .i64 0) := hP5.out.cell 0
  have p1 : W5.cell? ⟨w4.heap.size, 1, none⟩ = some (.int .u64 1) := hP5.out.cell 1
  have p2 : W5.cell? ⟨w4.heap.size, 2, none⟩ = some (.int .u32 0) := hP5.out.cell 2
  go_cut [7, 8] (fun s7 s8 wx => ∃ ub vb, s7 = .pointer (some ⟨ub, 0, none⟩) ∧ s8 = .int .i64 0 ∧ TrAt wx ub 3 4 3 (.func (.func 11) #[.pointer (some ⟨sb, 0, none⟩)] #[]) vb 1 (.slice none 0 0) 0 0 ∧ VxAt wx vb true 0 1 0 false (.slice none 0 0) (.slice none 0 0) (.slice none 0 0) (.slice none 0 0) ∧ Below W5.heap.size W5 wx)
  case first =>
    go_region_law (first | (go_simp; go_at_call 18; refine (thread (small_any _) W5.heap.size W5 (by go_grown) (by go_grown)).mono ?_; rintro e w6 ⟨rfl, hX6, -, -, -, hz6⟩; have q0 := kept_cell hX6 p0; have q1 := kept_cell hX6 p1; have q2 := kept_cell hX6 p2) | (go_simp; go_at_call 22; refine (open_some 3 4 3 (.func 11) #[.pointer (some ⟨sb, 0, none⟩)] #[] 0 1 0 1 _ (by decide) (by decide)).mono ?_; rintro e w7 ⟨rfl, ht7, hv7, hX7⟩))
    all_goals
      have hX := hX6.trans (hX7.mono hz6)
      go_wp2_with fail
      go_meet
      exact ⟨_, _, rfl, rfl, ht7, hv7, hX⟩
  case rest =>
  obtain ⟨ub, vb, rfl, rfl, hu, hv, hX⟩ := hcut
  obtain ⟨w7, hw7⟩ : ∃ w7, w7 = wc := ⟨_, rfl⟩
  subst hw7
  have hU := Lib.hid hu
  have hVu := Lib.hid hv
  have hT := Lib.hid (hT5.out.on hX)
  have hV := Lib.hid (hV5.out.on hX)
  have HS := Lib.hid (HS5.out.on hX)
  have hK := hK5.on hX
  clear hu hv hX hT5 hV5 HS5 hK5 hP5 p0 p1 p2
  go_upto_region 6 with (fail)
  rw [s1]
  go_wp2_with fail
  refine (get_leaf [107] kEnt true w7 hU.out (fetchLeaf_shelf (n := 1) (sz := 1) 0 ⟨4, entText kEnt, 1⟩ 0 w7 hU.out hVu.out HS.out (by decide) (by simp) rfl (by rw [kEnt_text]; decide) kEnt kEnt_parse) kEnt_rise (by simp [kEnt])).mono ?_
  rintro e w8 ⟨rfl, hX8⟩
  have hT8 := Lib.hid (hT.out.on hX8)
  have hV8 := Lib.hid (hV.out.on hX8)
  have HS8 := Lib.hid (HS.out.on hX8)
  have hK8 := hK.on hX8
  clear hX8 hU hVu hT hV HS hK
  rw [kEnt_k]
  simp only [Option.getD_some, Option.isSome_some, if_true]
  go_upto_region 7 with (fail)
  rw [s3]
  go_wp2_with fail
  refine (get_leaf [122] kEnt true w8 hT8.out (fetchLeaf_shelf (n := 1) (sz := 1) 0 ⟨4, entText kEnt, 1⟩ 0 w8 hT8.out hV8.out HS8.out (by decide) (by simp) rfl (by rw [kEnt_text]; decide) kEnt kEnt_parse) kEnt_rise (by simp [kEnt])).mono ?_
  rintro e w9 ⟨rfl, hX9⟩
  have hT9 := Lib.hid (hT8.out.on hX9)
  have HS9 := Lib.hid (HS8.out.on hX9)
  have hK9 := hK8.on hX9
  clear hX9 hT8 hV8 HS8 hK8
  rw [kEnt_z]
  simp only [Option.getD_none, Option.isSome_none, if_true]
  go_upto_region 8 with (fail)
  have c0 := HS9.out.c0
  have hl := HS9.out.map.len 3
  have hbk : w.heap.size ≤ w9.heap.size := hK9.size
  go_wp2_with fail
  refine (thread (height_any w9 hT9.out) w9.heap.size w9 (Below.refl _ _) (Nat.le_refl _)).mono ?_
  rintro e w10 ⟨rfl, hX10, -, -, -, hz10⟩
  have c0' := (HS9.out.on hX10).c0
  have hl' := (HS9.out.on hX10).map.len 3
  have hB : Below w.heap.size w w10 := (hK9.on hX10).below (Nat.le_refl _) (fun x hx => hx)
  go_wp2_with fail
  go_ret
  exact ⟨rfl, hB⟩

end Go.Proofs.YtafciefjlkdecaaGreat
