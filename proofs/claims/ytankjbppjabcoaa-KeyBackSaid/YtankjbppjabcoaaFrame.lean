/- What the rows' proofs share: a key that came in, by value, with its name's reach. -/
import Derived.Test.YtankjbppjabcoaaRows
import Derived.Test.YtankjbppjabcoaaWkB
import Derived.ProofKit
import Derived.OpenShut
import Derived.ShutString
import Derived.ChangeOld
import Derived.SizedLaws
import Derived.Lib.SmallJoins
namespace Go.Proofs.Ytankjbppjabcoaa
open Go.ChangeShapes Go.WideShapes Go.ChangeAt Go.RowKit Go.Joins Ky

theorem own : ownKnob Try.prog.godebug = none := by kernel_rfl
theorem laidOut : laidOutB Try.prog = true := by kernel_rfl
theorem cells23 : Try.prog.cellsOf 23 = 4 := by kernel_rfl
/-- A key as a value, and as data. -/
def kv (k : K) : Value := .agg #[.int .u8 (k.kind.toNat : Int), .int .i64 k.ino, .string (S k.name), .int .i64 k.index]
def kd {H : Type} (k : K) : DataW H := .agg [.lit (.int .u8 (k.kind.toNat : Int)), .lit (.int .i64 k.ino), .lit (.string k.name), .lit (.int .i64 k.index)]
def I64 (z : Int) : Prop := -9223372036854775808 ≤ z ∧ z ≤ 9223372036854775807

theorem key_of {H : Type} {enc : TypeId × Value → H} {W : World} {base b0 : Nat} {sp : Nat → Bool} {held : Bool} {v : Value} {d : DataW H} {p : List MemPlace}
    (hv : Value.okWide Try.prog W .any b0 23 v) (h : DataW.Trod enc Try.prog W base sp held 23 v d p) : ∃ k : K, v = kv k ∧ d = kd k ∧ I64 k.ino ∧ I64 k.index := by
  obtain ⟨v0, v1, v2, v3, y0, y1, y2, y3, n, rfl, rfl, _, h0, h1, h2, h3⟩ := open_agg4 Try.underlying23 (by kernel_rfl) cells23 hv h
  obtain ⟨a, e0, rfl, wa⟩ := DataW.trod_int Try.underlying5 h0
  obtain ⟨b, e1, rfl, wb⟩ := DataW.trod_int Try.underlying3 h1
  obtain ⟨s, e2, rfl, _⟩ := DataW.trod_string Try.underlying9 h2
  obtain ⟨c, e3, rfl, wc⟩ := DataW.trod_int Try.underlying3 h3
  simp at e0 e1 e2 e3
  subst e0 e1 e2 e3
  have ha := bounds_u8 wa
  have hb := bounds_i64 wb
  have hc := bounds_i64 wc
  obtain ⟨nm, rfl⟩ := S_of s
  have ea : ((UInt8.ofNat a.toNat).toNat : Int) = a := by rw [UInt8.toNat_ofNat']; omega
  exact ⟨⟨UInt8.ofNat a.toNat, b, nm, c⟩, by simp only [kv, ea], by simp only [kd, ea, S_toList], hb, hc⟩

/-- The reach of a key's name. -/
theorem key_reach {H : Type} {ts : List TypeId} {ds : List (DataW H)} (h : (DataW.weightsEach Try.prog ts ds).all (· ≤ reachBytes) = true) {j : Nat} {k : K} (ht : ts[j]? = some 23) (hd : ds[j]? = some (kd k)) : k.name.length ≤ 140737488351232 := by
  have := List.all_eq_true.1 h _ (DataW.weights_mem_each ht hd k.name.length (by simp [kd, DataW.weights, DataW.weightsEach, Try.underlying23]))
  exact of_decide_eq_true this
end Go.Proofs.Ytankjbppjabcoaa
