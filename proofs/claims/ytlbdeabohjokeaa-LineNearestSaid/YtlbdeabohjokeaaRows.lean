/-
  No cell of these rows narrows 'for every input' (looked for: loops, veiled, ifaces, maps, wideKeys, modest, calm, conditions, laid).
  DERIVED. THE GIVEN ROWS OF THIS SEAT. 4 by the template 'for every input the law returns true; each argument reads behind the call as it read before'; 0 by the template 'total and deterministic' (their statements: YtlbdeabohjokeaaTotals.lean).
  GIVEN WITH THE SEED: the statements are not yours to turn. If you find one false, say at which input.
  Laid BY PROGRAM, IN A SANDBOX (cutbox-rows.mjs): the forced cells as the released guide's own fill.sh prints them over the translation e6600e9b0d02ffe5… (all of the seat's roots in one cut). By AI agents, Wed Nov 11 2026. No macro, syntax, notation, axiom, sorry.
-/
import Derived.Test.YtlbdeabohjokeaaChecked
import GoSem.Claim
import GoSem.ClaimJoined
import GoSem.ClaimMapViews
import Derived.JoinedTies
import Derived.KernelRfl
namespace Go.Proofs.Ytlbdeabohjokeaa
/- THE CELL 'sum', in the pinned program and in every row, IS THE sha256 OF THE DUMP (.gsa) THAT YtlbdeabohjokeaaProg.lean LOADS. Nothing in Lean hashes anything: it is a label: what it is worth is what the hold of that sum in a sandbox is worth. -/
noncomputable def Try.pinned : Pinned := { name := "ytlbdeabohjokeaa", sum := "e6600e9b0d02ffe5c8dbeed00be3f31de04a8094f9f90c6f244b3f2f4c8ea23a", checked := Try.checked }
namespace Rows
def none {H : Type} : Left H := { results := [], args := [] }

/-- 'coppicelaw17.LineChecks': WHATEVER THE INPUT: true; the input reads as it did. -/
def lineChecksSpec : ChangeSpec := { name := "lineChecks", fn := fun _ => fun
  | [d1, d2] => { results := [.lit (.bool true)], args := [d1, d2] }
  | _ => none }
def lineChecksRow : OpenClaim := { program := "ytlbdeabohjokeaa", sum := "e6600e9b0d02ffe5c8dbeed00be3f31de04a8094f9f90c6f244b3f2f4c8ea23a", func := "coppice/coppicelaw17.LineChecks", spec := "lineChecks", unfollowed := true, recurses := true, apart := false }
def LineChecksSaid : Prop := lineChecksRow.holds Try.pinned (OpenSpec.ofChange lineChecksSpec)

/-- ITS FALSE NEIGHBOUR: 'it returns false'. Refute it at one input. -/
def lineChecksWrong : ChangeSpec := { name := "lineChecks", fn := fun _ => fun
  | [d1, d2] => { results := [.lit (.bool false)], args := [d1, d2] }
  | _ => none }
def LineChecksWrongFalsely : Prop := lineChecksRow.holds Try.pinned (OpenSpec.ofChange lineChecksWrong)

/-- 'coppicelaw17.LineNearest': WHATEVER THE INPUT: true; the input reads as it did. -/
def lineNearestSpec : ChangeSpec := { name := "lineNearest", fn := fun _ => fun
  | [d1, d2, d3] => { results := [.lit (.bool true)], args := [d1, d2, d3] }
  | _ => none }
def lineNearestRow : OpenClaim := { program := "ytlbdeabohjokeaa", sum := "e6600e9b0d02ffe5c8dbeed00be3f31de04a8094f9f90c6f244b3f2f4c8ea23a", func := "coppice/coppicelaw17.LineNearest", spec := "lineNearest", unfollowed := true, recurses := true, apart := false }
def LineNearestSaid : Prop := lineNearestRow.holds Try.pinned (OpenSpec.ofChange lineNearestSpec)

/-- ITS FALSE NEIGHBOUR: 'it returns false'. Refute it at one input. -/
def lineNearestWrong : ChangeSpec := { name := "lineNearest", fn := fun _ => fun
  | [d1, d2, d3] => { results := [.lit (.bool false)], args := [d1, d2, d3] }
  | _ => none }
def LineNearestWrongFalsely : Prop := lineNearestRow.holds Try.pinned (OpenSpec.ofChange lineNearestWrong)

/-- 'coppicelaw17.LineLines': WHATEVER THE INPUT: true; the input reads as it did. -/
def lineLinesSpec : ChangeSpec := { name := "lineLines", fn := fun _ => fun
  | [d1, d2, d3, d4] => { results := [.lit (.bool true)], args := [d1, d2, d3, d4] }
  | _ => none }
def lineLinesRow : OpenClaim := { program := "ytlbdeabohjokeaa", sum := "e6600e9b0d02ffe5c8dbeed00be3f31de04a8094f9f90c6f244b3f2f4c8ea23a", func := "coppice/coppicelaw17.LineLines", spec := "lineLines", unfollowed := true, recurses := true, apart := false }
def LineLinesSaid : Prop := lineLinesRow.holds Try.pinned (OpenSpec.ofChange lineLinesSpec)

/-- ITS FALSE NEIGHBOUR: 'it returns false'. Refute it at one input. -/
def lineLinesWrong : ChangeSpec := { name := "lineLines", fn := fun _ => fun
  | [d1, d2, d3, d4] => { results := [.lit (.bool false)], args := [d1, d2, d3, d4] }
  | _ => none }
def LineLinesWrongFalsely : Prop := lineLinesRow.holds Try.pinned (OpenSpec.ofChange lineLinesWrong)

/-- 'coppicelaw17.LineBetween': WHATEVER THE INPUT: true; the input reads as it did. -/
def lineBetweenSpec : ChangeSpec := { name := "lineBetween", fn := fun _ => fun
  | [d1, d2, d3] => { results := [.lit (.bool true)], args := [d1, d2, d3] }
  | _ => none }
def lineBetweenRow : OpenClaim := { program := "ytlbdeabohjokeaa", sum := "e6600e9b0d02ffe5c8dbeed00be3f31de04a8094f9f90c6f244b3f2f4c8ea23a", func := "coppice/coppicelaw17.LineBetween", spec := "lineBetween", unfollowed := true, recurses := true, apart := false }
def LineBetweenSaid : Prop := lineBetweenRow.holds Try.pinned (OpenSpec.ofChange lineBetweenSpec)

/-- ITS FALSE NEIGHBOUR: 'it returns false'. Refute it at one input. -/
def lineBetweenWrong : ChangeSpec := { name := "lineBetween", fn := fun _ => fun
  | [d1, d2, d3] => { results := [.lit (.bool false)], args := [d1, d2, d3] }
  | _ => none }
def LineBetweenWrongFalsely : Prop := lineBetweenRow.holds Try.pinned (OpenSpec.ofChange lineBetweenWrong)

/- THE SECOND FORM. 'bulk': how many values and letters a reading holds, each counted each time it is reached (what is shared counts as often as it is met; a slice's spare places count too). A statement '..UptoSaid' is the law's where the arguments, and the package variables that the reading takes, are together of bulk at most 1048576: NARROWER than '..Said'. Prove '..Said' where nothing that the law and all that it calls make is longer than what came in: it says more and counts as full. Else prove '..UptoSaid'. A law counts once. -/
mutual
def uptoBulk {H : Type} : DataW H → Nat
  | .lit (.string bytes) => bytes.length + 1
  | .lit _ => 1
  | .nil => 1
  | .ptr d => uptoBulk d + 1
  | .slice elems spare => uptoBulkAll elems + uptoBulkAll spare + 1
  | .agg parts => uptoBulkAll parts + 1
  | .iface _ d => uptoBulk d + 1
  | .map entries => uptoBulkEntries entries + 1
  | .held _ => 1
def uptoBulkAll {H : Type} : List (DataW H) → Nat
  | [] => 0
  | d :: r => uptoBulk d + uptoBulkAll r
def uptoBulkEntries {H : Type} : List (Lit × DataW H) → Nat
  | [] => 0
  | x :: r => uptoBulkEntry x + uptoBulkEntries r
def uptoBulkEntry {H : Type} : Lit × DataW H → Nat
  | (.string bytes, d) => bytes.length + uptoBulk d + 1
  | (_, d) => uptoBulk d + 1
 end
def uptoSmall : (H : Type) → List (DataW H) → Bool := fun _ ds => decide (uptoBulkAll ds ≤ 1048576)
def OpenSpec.upto (s : _root_.Go.ChangeSpec) : _root_.Go.OpenSpec := { _root_.Go.OpenSpec.ofChange s with cond := some uptoSmall }

/-- 'coppicelaw17.LineChecks', WHERE WHAT IT READS IS OF BULK AT MOST 1048576: true; the input reads as it did. -/
def lineChecksUptoRow : OpenClaim := { program := "ytlbdeabohjokeaa", sum := "e6600e9b0d02ffe5c8dbeed00be3f31de04a8094f9f90c6f244b3f2f4c8ea23a", func := "coppice/coppicelaw17.LineChecks", spec := "lineChecks", unfollowed := true, recurses := true, apart := false, narrowed := true }
def LineChecksUptoSaid : Prop := lineChecksUptoRow.holds Try.pinned (OpenSpec.upto lineChecksSpec)

/-- 'coppicelaw17.LineNearest', WHERE WHAT IT READS IS OF BULK AT MOST 1048576: true; the input reads as it did. -/
def lineNearestUptoRow : OpenClaim := { program := "ytlbdeabohjokeaa", sum := "e6600e9b0d02ffe5c8dbeed00be3f31de04a8094f9f90c6f244b3f2f4c8ea23a", func := "coppice/coppicelaw17.LineNearest", spec := "lineNearest", unfollowed := true, recurses := true, apart := false, narrowed := true }
def LineNearestUptoSaid : Prop := lineNearestUptoRow.holds Try.pinned (OpenSpec.upto lineNearestSpec)

/-- 'coppicelaw17.LineLines', WHERE WHAT IT READS IS OF BULK AT MOST 1048576: true; the input reads as it did. -/
def lineLinesUptoRow : OpenClaim := { program := "ytlbdeabohjokeaa", sum := "e6600e9b0d02ffe5c8dbeed00be3f31de04a8094f9f90c6f244b3f2f4c8ea23a", func := "coppice/coppicelaw17.LineLines", spec := "lineLines", unfollowed := true, recurses := true, apart := false, narrowed := true }
def LineLinesUptoSaid : Prop := lineLinesUptoRow.holds Try.pinned (OpenSpec.upto lineLinesSpec)

/-- 'coppicelaw17.LineBetween', WHERE WHAT IT READS IS OF BULK AT MOST 1048576: true; the input reads as it did. -/
def lineBetweenUptoRow : OpenClaim := { program := "ytlbdeabohjokeaa", sum := "e6600e9b0d02ffe5c8dbeed00be3f31de04a8094f9f90c6f244b3f2f4c8ea23a", func := "coppice/coppicelaw17.LineBetween", spec := "lineBetween", unfollowed := true, recurses := true, apart := false, narrowed := true }
def LineBetweenUptoSaid : Prop := lineBetweenUptoRow.holds Try.pinned (OpenSpec.upto lineBetweenSpec)

end Rows
end Go.Proofs.Ytlbdeabohjokeaa
