/- What the rows' proofs share: the reading of a slice of bytes, the table out of the row's condition, the door's heap. -/
import Derived.Test.YtkddijipdldinaaDoorRows
import Derived.Test.YtkddijipdldinaaDoorWkE
import Derived.ProofKit
import Derived.LaidMore
import Derived.OpenShut
import Derived.Stop.Joined
import Derived.Lib.LaidTab
namespace Go.Proofs.YtkddijipdldinaaDoor
open Go.ChangeShapes Go.WideShapes Go.ChangeAt Go.RowKit

theorem own : ownKnob Tryd.prog.godebug = none := by kernel_rfl
theorem laidOut : laidOutB Tryd.prog = true := by kernel_rfl
def laid1 : List (String × DataW Unit) := [("coppice/crc.halves", Rows.laid_coppice_crc_halves)]
theorem door_met (os : Os) (args : Array Value) : laidMetH Tryd.prog laid1 ((World.doorLaid Tryd.prog 400 os).forCall (fun _ _ => 0) ⟨#[], args, []⟩).memory :=
  laidMetH_of_parts3 (fuel := 8) (laidMet_of_run' 8 (by kernel_rfl) (by kernel_rfl)) (by kernel_rfl) (by kernel_rfl)
theorem gHalves : Tryd.prog.globalNamed "coppice/crc.halves" = some 0 := by kernel_rfl
theorem tHalves : (Tryd.prog.globals[0]?).map (·.type) = some 38 := by kernel_rfl
abbrev Laid (w : World) : Prop := Tab w
theorem laid_of {W : World} (h : laidMetH Tryd.prog laid1 W) : Laid W := by
  rw [MakeChecks.laidMetH_plain _ _ _ (by kernel_rfl)] at h
  have hT : Lib.TabIs Tryd.prog W "coppice/crc.halves" .u32 (Crc.tab.map Int.ofNat) :=
    Lib.tabIs_of_head gHalves tHalves Tryd.underlying38 Tryd.underlying22 (by kernel_rfl) (by kernel_rfl) h
  intro i hi
  have := hT.cell gHalves i (by simpa [Crc.tab] using hi)
  rw [this]
  unfold Crc.tv
  rw [List.getD_eq_getElem?_getD, List.getElem?_map, List.getD_eq_getElem?_getD]
  cases Crc.tab[i]? <;> rfl

/-- A slice of integers that came in. -/
def IsRow (k : IntKind) (w : World) (a : Option Addr) (len cap : Nat) (zs : List Int) : Prop :=
  (a = none ∧ len = 0 ∧ cap = 0 ∧ zs = []) ∨
  ∃ x, a = some x ∧ len ≤ cap ∧ cap ≤ maxLen ∧ zs.length = cap ∧ (∀ i, i < zs.length → w.cell? (x.add i) = some (.int k (zs.getD i 0))) ∧ ∀ n ∈ zs, (Lit.int k n).wf = true

theorem u8_of_wf {n : Int} (h : (Lit.int .u8 n).wf = true) : ((UInt8.ofNat n.toNat).toNat : Int) = n := by
  have := bounds_u8 h
  rw [UInt8.toNat_ofNat']
  omega
theorem bytes_of_row {w : World} {a : Option Addr} {len cap : Nat} {zs : List Int} (h : IsRow .u8 w a len cap zs) : ∃ l : List UInt8, len = l.length ∧ Bytes w a l := by
  rcases h with ⟨rfl, rfl, rfl, rfl⟩ | ⟨x, rfl, hlc, hm, hz, hc, hwf⟩
  · exact ⟨[], rfl, by simp, fun h => absurd rfl h⟩
  · have hm' : len ≤ 9223372036854775807 := by unfold maxLen at hm; omega
    refine ⟨(zs.take len).map fun n => UInt8.ofNat n.toNat, by simp; omega, by simp; omega, fun hn => ?_⟩
    have hpos : 0 < zs.length := by
      rcases Nat.eq_zero_or_pos zs.length with h0 | h0
      · exact absurd (by rw [List.length_eq_zero_iff.1 h0]; simp) hn
      · exact h0
    obtain ⟨b, o, rfl, hcc⟩ := ints_at hc hpos
    refine ⟨b, o, rfl, fun j hj => ?_⟩
    have hj' : j < zs.length := by simp at hj; omega
    have hjl : j < len := by simp at hj; omega
    rw [hcc j hj', List.getD_eq_getElem?_getD, List.getD_eq_getElem?_getD, List.getElem?_map, List.getElem?_take_of_lt hjl, List.getElem?_eq_getElem hj']
    simp only [Option.map_some, Option.getD_some]
    rw [u8_of_wf (hwf _ (List.getElem_mem hj'))]
theorem u32_of_wf {n : Int} (h : (Lit.int .u32 n).wf = true) : ∃ c : BitVec 32, n = Crc.v c := by
  have := bounds_u32 h
  refine ⟨BitVec.ofNat 32 n.toNat, ?_⟩
  rw [Crc.v_ofNat _ (by omega)]
  omega
end Go.Proofs.YtkddijipdldinaaDoor
