/-
  The walks of layer 19 (pick) below the heap: which is ahead, the swap, the last one, how many; how a call through heap.Interface finds them.
-/
import Derived.Test.YtfnjomhefklbiaaSl
import Derived.BigQuiet
import Derived.Deep.QuietTactic
namespace Go.Proofs.Ytfnjomhefklbiaa
open Go.RowKit

theorem wrapChk (ts : Array TypeId) (ty : TypeId) (a : Addr) (s m : ByteArray) : Builtin.ssaWrapNilChk_ ts ty #[.pointer (some a), .string s, .string m] = pure (.pointer (some a)) := rfl

/-- A call through an interface of a pointer's method with a value receiver. -/
theorem meth_val {P : Program} {t e : TypeId} {name : String} {f : FuncId} {i : TypeInfo} {m : Go.Method} (hi : P.info? t = some i) (hm : i.methods.find? (·.name == name) = some m) (hp : m.path = #[]) (hf : m.func = some (f, false))
    (ht : P.underlying t = some (.pointer e)) (hag : ∀ w, (isAgg e).run P w = .ok false w) (k : Nat) (a : Addr) (v : Value) (w : World) (hc : w.cell? a = some v) :
    (method (k + 1) t (.pointer (some a)) name).run P w = .ok (f, v) w := by
  unfold method
  simp [typeInfo, hi, hm, hp, hf, follow, receiverAt, run_underlying ht, Place.get, strVal, wrapChk, loadVar, asAddr, hag, hc]
/-- .. with a pointer receiver. -/
theorem meth_ptr {P : Program} {t e : TypeId} {name : String} {f : FuncId} {i : TypeInfo} {m : Go.Method} (hi : P.info? t = some i) (hm : i.methods.find? (·.name == name) = some m) (hp : m.path = #[]) (hf : m.func = some (f, true))
    (ht : P.underlying t = some (.pointer e)) (k : Nat) (a : Addr) (w : World) :
    (method (k + 1) t (.pointer (some a)) name).run P w = .ok (f, .pointer (some a)) w := by
  unfold method
  simp [typeInfo, hi, hm, hp, hf, follow, receiverAt, run_underlying ht, Place.get]

theorem meth_parts {P : Program} {t : TypeId} {name : String} {f : FuncId} {b : Bool} (h : ((P.info? t).bind fun i => (i.methods.find? (·.name == name)).map fun m => (m.path, m.func)) = some (#[], some (f, b))) :
    ∃ (i : TypeInfo) (m : Go.Method), P.info? t = some i ∧ i.methods.find? (·.name == name) = some m ∧ m.path = #[] ∧ m.func = some (f, b) := by
  obtain ⟨i, hi, h⟩ := Option.bind_eq_some_iff.1 h
  obtain ⟨m, hm, h⟩ := Option.map_eq_some_iff.1 h
  simp only [Prod.mk.injEq] at h
  exact ⟨i, m, hi, hm, h.1, h.2⟩
theorem isAgg_places (w : World) : (isAgg 80).run Try.prog w = .ok false w := by kernel_rfl
theorem m_Len : ((Try.prog.info? 70).bind fun i => (i.methods.find? (·.name == "Len")).map fun m => (m.path, m.func)) = some (#[], some (34, false)) := by kernel_rfl
theorem m_Less : ((Try.prog.info? 70).bind fun i => (i.methods.find? (·.name == "Less")).map fun m => (m.path, m.func)) = some (#[], some (57, false)) := by kernel_rfl
theorem m_Swap : ((Try.prog.info? 70).bind fun i => (i.methods.find? (·.name == "Swap")).map fun m => (m.path, m.func)) = some (#[], some (59, false)) := by kernel_rfl
theorem m_Pop : ((Try.prog.info? 70).bind fun i => (i.methods.find? (·.name == "Pop")).map fun m => (m.path, m.func)) = some (#[], some (58, true)) := by kernel_rfl

theorem call_Len (k : Nat) (a : Addr) (v : Value) (w : World) (hc : w.cell? a = some v) : (method (k + 1) 70 (.pointer (some a)) "Len").run Try.prog w = .ok (34, v) w := by
  obtain ⟨i, m, h1, h2, h3, h4⟩ := meth_parts m_Len
  exact meth_val h1 h2 h3 h4 Try.underlying70 isAgg_places k a v w hc
theorem call_Less (k : Nat) (a : Addr) (v : Value) (w : World) (hc : w.cell? a = some v) : (method (k + 1) 70 (.pointer (some a)) "Less").run Try.prog w = .ok (57, v) w := by
  obtain ⟨i, m, h1, h2, h3, h4⟩ := meth_parts m_Less
  exact meth_val h1 h2 h3 h4 Try.underlying70 isAgg_places k a v w hc
theorem call_Swap (k : Nat) (a : Addr) (v : Value) (w : World) (hc : w.cell? a = some v) : (method (k + 1) 70 (.pointer (some a)) "Swap").run Try.prog w = .ok (59, v) w := by
  obtain ⟨i, m, h1, h2, h3, h4⟩ := meth_parts m_Swap
  exact meth_val h1 h2 h3 h4 Try.underlying70 isAgg_places k a v w hc
theorem call_Pop (k : Nat) (a : Addr) (w : World) : (method (k + 1) 70 (.pointer (some a)) "Pop").run Try.prog w = .ok (58, .pointer (some a)) w := by
  obtain ⟨i, m, h1, h2, h3, h4⟩ := meth_parts m_Pop
  exact meth_ptr h1 h2 h3 h4 Try.underlying70 k a w

set_option maxHeartbeats 400000 in
theorem places_len (ao : Option Addr) (n cap : Nat) (w : World) :
    Calls Try.prog 34 #[.slice ao n cap] w fun e w' => e = .returned (.int .i64 n) ∧ w = w' := by
  go_enter Try.func34, Try.ntmps34
  go_wp2
  go_ret
  exact ⟨rfl, rfl⟩

/-- Is one place ahead of another: (its place, its count). -/
def ahead (a b : Int × Int) : Bool := decide (b.2 < a.2 ∨ (a.2 = b.2 ∧ a.1 < b.1))

set_option maxHeartbeats 1000000 in
theorem places_less (g n cap i k : Nat) (a b : Int × Int) (w : World) (hi : i < n) (hk : k < n)
    (ca : w.cell? ⟨g, i * 2, none⟩ = some (.int .i64 a.1)) (cb : w.cell? ⟨g, i * 2 + 1, none⟩ = some (.int .i64 a.2))
    (da : w.cell? ⟨g, k * 2, none⟩ = some (.int .i64 b.1)) (db : w.cell? ⟨g, k * 2 + 1, none⟩ = some (.int .i64 b.2)) :
    Calls Try.prog 57 #[.slice (some ⟨g, 0, none⟩) n cap, .int .i64 i, .int .i64 k] w fun e w' => e = .returned (.bool (ahead a b)) ∧ ∃ m, w' = w.drewN m := by
  obtain ⟨a1, a2⟩ := a
  obtain ⟨b1, b2⟩ := b
  dsimp only at ca cb da db
  have hi0 : (0 : Int) ≤ (i : Int) := Int.natCast_nonneg _
  have hi1 : (i : Int) < (n : Int) := by omega
  have hk0 : (0 : Int) ≤ (k : Int) := Int.natCast_nonneg _
  have hk1 : (k : Int) < (n : Int) := by omega
  by_cases h1 : b2 < a2
  · have Hv := Lib.hid (show ahead (a1, a2) (b1, b2) = true by simp [ahead, h1])
    go_enter Try.func57, Try.ntmps57
    go_wp2_with fail
    go_quiet (fail)
    go_wp2_with fail
    go_ret
    exact ⟨ret_bool (by rw [Hv.out]), ⟨_, rfl⟩⟩
  · have h1' : decide (b2 < a2) = false := by simpa using h1
    clear h1
    by_cases h2 : a2 = b2
    · subst h2
      have Hv := Lib.hid (show ahead (a1, a2) (b1, a2) = decide (a1 < b1) by simp [ahead])
      go_enter Try.func57, Try.ntmps57
      go_wp2_with fail
      go_quiet (fail)
      go_wp2_with fail
      go_ret
      exact ⟨ret_bool (by rw [Hv.out]), ⟨_, rfl⟩⟩
    · have Hv := Lib.hid (show ahead (a1, a2) (b1, b2) = false by simp [ahead, h2]; simpa using h1')
      have h2' : (a2 == b2) = false := by simpa using h2
      clear h2
      go_enter Try.func57, Try.ntmps57
      go_wp2_with fail
      go_quiet (fail)
      go_wp2_with fail
      go_ret
      exact ⟨ret_bool (by rw [Hv.out]), ⟨_, rfl⟩⟩

end Go.Proofs.Ytfnjomhefklbiaa
