/-
  What Get and Scan tell where every load gives the same.
-/
import Derived.Test.YtafciefjlkdecaaGreatTru
import Derived.Test.YtafciefjlkdecaaGreatTwk
namespace Go.Proofs.YtafciefjlkdecaaGreat
open Go.RowKit
attribute [local go_sem ↓] Go.wp_at_zero Go.wp_at_succ

/-- The error where every load gives a block of that kind and payload. -/
def codeT (h k : Nat) (pay : List UInt8) : Int := if h = 1 ∧ k = 4 ∧ (parseE pay).2 = 0 then 0 else 10

/-- The law's closure. -/
theorem clos_any (kb pb k : Nat) (pay : List UInt8) (pa : Int) (pg ps : Nat) (w : World) (hk : w.cell? ⟨kb, 0, none⟩ = some (.int .u8 k)) (hp : w.cell? ⟨pb, 0, none⟩ = some (.string (S pay))) :
    Calls Tryz.prog 36 #[.agg #[.int .i64 pa, .int .u64 pg, .int .u32 ps], .pointer (some ⟨kb, 0, none⟩), .pointer (some ⟨pb, 0, none⟩)] w fun e w' => e = .returned (.tuple #[.int .u8 k, .string (S pay), .int .i64 0]) ∧ Below w.heap.size w w' := by
  have hkl := World.block_lt_of_cell? w _ hk
  have hpl := World.block_lt_of_cell? w _ hp
  go_enter Tryz.func36, Tryz.ntmps36
  go_upto_region 1 with (fail)
  have e0 : ∀ x, (w.alloc x).cell? ⟨kb, 0, none⟩ = some (.int .u8 k) := fun x => (World.cell?_alloc_past _ _ _ hkl).trans hk
  have e1 : ∀ x, (w.alloc x).cell? ⟨pb, 0, none⟩ = some (.string (S pay)) := fun x => (World.cell?_alloc_past _ _ _ hpl).trans hp
  go_region
  all_goals
    go_wp2_with fail
    go_returns
    exact ⟨rfl, below_drew' ((Below.refl _ _).alloc (Nat.le_refl _) _)⟩

theorem clos_all (kb pb k : Nat) (pay : List UInt8) (w : World) (hk : w.cell? ⟨kb, 0, none⟩ = some (.int .u8 k)) (hp : w.cell? ⟨pb, 0, none⟩ = some (.string (S pay))) :
    LoadAll 36 #[] #[.pointer (some ⟨kb, 0, none⟩), .pointer (some ⟨pb, 0, none⟩)] k pay w := fun pa pg ps =>
  ⟨enters_of Tryz.func36 (by kernel_rfl) rfl, fun w1 hX => clos_any kb pb k pay pa pg ps w1 (kept_cell hX hk) (kept_cell hX hp)⟩

section
variable {tb b : Nat} {F B L : Int} {fid : FuncId} {xs ys : Array Value} {H : Nat} {gone : Value} {fl le : Int} {pa : Int} {pg ps : Nat}
theorem LoadAll.on {k : Nat} {pay : List UInt8} {w w' : World} (h : LoadAll fid xs ys k pay w) (hb : Below w.heap.size w w') : LoadAll fid xs ys k pay w' := fun pa pg ps => (h pa pg ps).mono hb
/-- How the fetch of the root ends. -/
theorem fetch21 (k : Nat) (pay : List UInt8) (w : World) (ht : TrAt w tb F B L (.func (.func fid) xs ys) b (H : Int) gone fl le) (hv : VxAt w b true pa pg ps false (.slice none 0 0) (.slice none 0 0) (.slice none 0 0) (.slice none 0 0)) (hl : LoadAll fid xs ys k pay w) (h1 : 1 ≤ H) (hp : pay.length ≤ 10000) (h5 : k ≠ 5) :
    (H = 1 ∧ codeT H k pay = 0 ∧ FetchLeaf tb b (parseE pay).1 true w) ∨ (codeT H k pay = 10 ∧ FetchBad tb b (H : Int) 10 w) := by
  by_cases hh : H = 1 ∧ k = 4
  · obtain ⟨rfl, rfl⟩ := hh
    by_cases h0 : (parseE pay).2 = 0
    · refine Or.inl ⟨rfl, by simp [codeT, h0], fun w1 hX => ?_⟩
      refine (fetch_leaf 4 pay 1 w1 (ht.on hX) (hv.on hX) ((hl pa pg ps).mono hX) rfl rfl (by omega) (parseE pay).2 (parseE pay).1 rfl).mono ?_
      rintro e w2 ⟨(⟨-, b', a, c, rfl, -, hv2, hb2⟩ | ⟨hn, -⟩), hX2⟩
      · exact ⟨⟨b', true, pa, pg, ps, a, c, _, _, _, rfl, hv2, hb2⟩, hX2⟩
      · exact absurd h0 hn
    · refine Or.inr ⟨by simp [codeT, h0], fun w1 hX => ?_⟩
      refine (fetch_leaf 4 pay 1 w1 (ht.on hX) (hv.on hX) ((hl pa pg ps).mono hX) rfl rfl (by omega) (parseE pay).2 (parseE pay).1 rfl).mono ?_
      rintro e w2 ⟨(⟨hn, -⟩ | ⟨-, rfl⟩), hX2⟩
      · exact absurd hn h0
      · exact ⟨rfl, hX2⟩
  · refine Or.inr ⟨by unfold codeT; rw [if_neg (fun q => hh ⟨q.1, q.2.1⟩)], fun w1 hX => ?_⟩
    exact fetch_kind k pay (H : Int) w1 (ht.on hX) (hv.on hX) ((hl pa pg ps).mono hX) (by omega) (fun e => fun q => hh ⟨by omega, q⟩) (fun _ => h5)

theorem get21 (key : List UInt8) (k : Nat) (pay : List UInt8) (w : World) (ht : TrAt w tb F B L (.func (.func fid) xs ys) b (H : Int) gone fl le) (hv : VxAt w b true pa pg ps false (.slice none 0 0) (.slice none 0 0) (.slice none 0 0) (.slice none 0 0)) (hl : LoadAll fid xs ys k pay w) (h1 : 1 ≤ H) (h2 : H ≤ 32) (hp : pay.length ≤ 10000) :
    Calls Tryz.prog 25 #[.pointer (some ⟨tb, 0, none⟩), .string (S key)] w fun e w' => (∃ v th n, e = .returned (.tuple #[.string v, .bool th, .int .i64 n, .int .i64 (codeT H k pay)])) ∧ Below w.heap.size w w' := by
  by_cases h5 : k = 5
  · subst h5
    refine (get_deep key pay w ht hv hl h1 h2 hp).mono ?_
    rintro e w' ⟨rfl, hX⟩
    exact ⟨⟨⟨#[]⟩, false, 0, by simp [codeT]⟩, hX⟩
  · rcases fetch21 k pay w ht hv hl h1 hp h5 with ⟨rfl, hc, hf⟩ | ⟨hc, hf⟩
    · rw [hc]
      refine (get_leaf key (parseE pay).1 true w ht hf (parseE_right pay).2 (by have := parseE_len pay; omega)).mono ?_
      rintro e w' ⟨rfl, hX⟩
      exact ⟨⟨_, _, _, rfl⟩, hX⟩
    · rw [hc]
      refine (get_fail key 10 w ht hf (by decide)).mono ?_
      rintro e w' ⟨rfl, hX⟩
      exact ⟨⟨_, _, _, rfl⟩, hX⟩

theorem scan21 (k : Nat) (pay : List UInt8) (w : World) (ht : TrAt w tb F B L (.func (.func fid) xs ys) b (H : Int) gone fl le) (hv : VxAt w b true pa pg ps false (.slice none 0 0) (.slice none 0 0) (.slice none 0 0) (.slice none 0 0)) (hl : LoadAll fid xs ys k pay w) (h1 : 1 ≤ H) (h2 : H ≤ 32) (hp : pay.length ≤ 10000) :
    Calls Tryz.prog 17 #[.pointer (some ⟨tb, 0, none⟩), .string ⟨#[]⟩, .string ⟨#[]⟩, .int .i64 5] w fun e w' => (∃ v, e = .returned (.tuple #[v, .int .i64 (codeT H k pay)])) ∧ Below w.heap.size w w' := by
  by_cases h5 : k = 5
  · subst h5
    refine (scan_deep 5 pay w ht hv hl h1 h2 hp (by decide)).mono ?_
    rintro e w' ⟨rfl, hX⟩
    exact ⟨⟨.slice none 0 0, by simp [codeT]⟩, hX⟩
  · rcases fetch21 k pay w ht hv hl h1 hp h5 with ⟨rfl, hc, hf⟩ | ⟨hc, hf⟩
    · rw [hc]
      refine (scan_leaf 5 (parseE pay).1 true w ht hf (by have := parseE_len pay; omega) (parseE_right pay).2 (parseE_right pay).1).mono ?_
      rintro e w' ⟨⟨_, _, rfl, -⟩, hX⟩
      exact ⟨⟨_, rfl⟩, hX⟩
    · rw [hc]
      refine (scan_fail 5 10 w ht hf (by decide)).mono ?_
      rintro e w' ⟨rfl, hX⟩
      exact ⟨⟨_, rfl⟩, hX⟩
end

end Go.Proofs.YtafciefjlkdecaaGreat
