/-
  strings.Repeat of one byte: the library's contract, laid at this program.
-/
import Derived.Test.YtlmlmkeomlehmaaProg
import Derived.Test.YtlmlmkeomlehmaaZa
import Derived.Shelf.Strings.Repeat
import Derived.Ground.NamesProg
namespace Go.Proofs.Ytlmlmkeomlehmaa
open Go.RowKit Go.Shelf

def repeatA_ren : Go.Shelf.Ren := ⟨fun | 105 => 46 | 212 => 78 | 99 => 79 | 165 => 80 | 166 => 55 | 170 => 81 | 169 => 57 | 263 => 109 | 264 => 110 | 206 => 111 | 240 => 87 | 241 => 112 | 276 => 118 | 277 => 132 | n => n, fun | 9 => 9 | 3 => 3 | 4 => 4 | 20 => 20 | 0 => 0 | 46 => 149 | 109 => 150 | 5 => 5 | 72 => 116 | 76 => 122 | 51 => 48 | 146 => 183 | 53 => 47 | 148 => 185 | 70 => 114 | 37 => 54 | 75 => 118 | 127 => 161 | 164 => 192 | 80 => 124 | n => n, fun | n => n⟩
theorem repeatA : Go.Proofs.Lays.n105 Try.prog repeatA_ren := {
  mixed := (by kernel_rfl),
  f99 := Try.func79.trans (congrArg some (by kernel_rfl)),
  f105 := Try.func46.trans (congrArg some (by kernel_rfl)),
  f165 := Try.func80.trans (congrArg some (by kernel_rfl)),
  f166 := Try.func55.trans (congrArg some (by kernel_rfl)),
  f169 := Try.func57.trans (congrArg some (by kernel_rfl)),
  f170 := Try.func81.trans (congrArg some (by kernel_rfl)),
  f206 := Try.func111.trans (congrArg some (by kernel_rfl)),
  f212 := Try.func78.trans (congrArg some (by kernel_rfl)),
  f240 := Try.func87.trans (congrArg some (by kernel_rfl)),
  f241 := Try.func112.trans (congrArg some (by kernel_rfl)),
  f263 := Try.func109.trans (congrArg some (by kernel_rfl)),
  f264 := Try.func110.trans (congrArg some (by kernel_rfl)),
  f276 := Try.func118.trans (congrArg some (by kernel_rfl)),
  f277 := Try.func132.trans (congrArg some (by kernel_rfl)),
  t0 := Try.underlying0,
  a0 := Try.isAgg0,
  z0 := Try.sizeOf0,
  v0 := Try.zeroValue0,
  t3 := Try.underlying3,
  a3 := Try.isAgg3,
  z3 := Try.sizeOf3,
  v3 := Try.zeroValue3,
  t4 := Try.underlying4,
  a4 := Try.isAgg4,
  z4 := Try.sizeOf4,
  v4 := Try.zeroValue4,
  t5 := Try.underlying5,
  a5 := Try.isAgg5,
  z5 := Try.sizeOf5,
  v5 := Try.zeroValue5,
  t9 := Try.underlying9,
  a9 := Try.isAgg9,
  z9 := Try.sizeOf9,
  v9 := Try.zeroValue9,
  t20 := Try.underlying20,
  a20 := Try.isAgg20,
  z20 := Try.sizeOf20,
  v20 := Try.zeroValue20,
  t37 := Try.underlying54,
  a37 := Try.isAgg54,
  z37 := Try.sizeOf54,
  v37 := Try.zeroValue54,
  t46 := Try.underlying149,
  a46 := Try.isAgg149,
  z46 := Try.sizeOf149,
  v46 := Try.zeroValue149,
  t51 := Try.underlying48,
  a51 := Try.isAgg48,
  z51 := Try.sizeOf48,
  v51 := Try.zeroValue48,
  t53 := Try.underlying47,
  a53 := Try.isAgg47,
  z53 := Try.sizeOf47,
  v53 := Try.zeroValue47,
  t70 := Try.underlying114,
  a70 := Try.isAgg114,
  z70 := Try.sizeOf114,
  v70 := Try.zeroValue114,
  t72 := Try.underlying116,
  a72 := Try.isAgg116,
  z72 := Try.sizeOf116,
  v72 := Try.zeroValue116,
  t75 := Try.underlying118,
  a75 := Try.isAgg118,
  z75 := Try.sizeOf118,
  v75 := Try.zeroValue118,
  t76 := Try.underlying122,
  a76 := Try.isAgg122,
  z76 := Try.sizeOf122,
  v76 := Try.zeroValue122,
  t109 := Try.underlying150,
  a109 := Try.isAgg150,
  z109 := Try.sizeOf150,
  v109 := Try.zeroValue150,
  t127 := Try.underlying161,
  a127 := Try.isAgg161,
  z127 := Try.sizeOf161,
  v127 := Try.zeroValue161,
  t146 := Try.underlying183,
  a146 := Try.isAgg183,
  z146 := Try.sizeOf183,
  v146 := Try.zeroValue183,
  t148 := Try.underlying185,
  a148 := Try.isAgg185,
  z148 := Try.sizeOf185,
  v148 := Try.zeroValue185,
  t164 := Try.underlying192,
  a164 := Try.isAgg192,
  z164 := Try.sizeOf192,
  v164 := Try.zeroValue192 }

theorem repeatX : Builder.Extra Try.prog repeatA_ren := {
  sizeBuilder := (by kernel_rfl),
  liesBuilder := (by kernel_rfl),
  t5 := repeatA.t5,
  a5 := repeatA.a5,
  z5 := repeatA.z5,
  v5 := repeatA.v5,
  infoByte := (by kernel_rfl),
  cellsByte := (by kernel_rfl),
  sizeByte := (by kernel_rfl),
  neB5 := (by decide) }

/-- So many copies of one byte. -/
theorem repeat_any (x : UInt8) (c : Nat) (w : World) (hc : c ≤ 100000) :
    Calls Try.prog 46 #[.string (S [x]), .int .i64 c] w fun e w' => e = .returned (.string (S (List.replicate c x))) ∧ Below w.heap.size w w' := by
  have h := Any.strings_Repeat repeatA repeatX (S [x]) c w (by omega) (by rw [S_size]; simp only [List.length_cons, List.length_nil]; omega)
  have e : Lib.repeatL (S [x]).data.toList c = List.replicate c x := by
    rw [S_data, show [x] = List.replicate 1 x from rfl, Lib.repeatL_replicate, Nat.mul_one]
  rw [e] at h
  exact h

end Go.Proofs.Ytlmlmkeomlehmaa
