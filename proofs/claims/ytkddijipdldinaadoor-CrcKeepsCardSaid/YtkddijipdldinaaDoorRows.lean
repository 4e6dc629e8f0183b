/-
  NARROWER THAN 'FOR EVERY INPUT', by the rows' own cells (each row's printed sentence says how): CrcSums: laid · CrcPieces: laid · CrcTurns: laid · CrcThrees: laid · CrcKeeps: laid.
  DERIVED. THE GIVEN ROWS OF THIS SEAT. 5 by the template 'for every input the law returns true; each argument reads behind the call as it read before'; 0 by the template 'total and deterministic' (their statements: YtkddijipdldinaaDoorTotals.lean).
  GIVEN WITH THE SEED: the statements are not yours to turn. If you find one false, say at which input.
  Laid BY PROGRAM, IN A SANDBOX (cutbox-rows.mjs): the forced cells as the released guide's own fill.sh prints them over the translation 88358240d9be86e2… (all of the seat's roots in one cut). By AI agents, Wed Nov 11 2026. No macro, syntax, notation, axiom, sorry.
-/
import Derived.Test.YtkddijipdldinaaDoorChecked
import GoSem.Claim
import GoSem.ClaimJoined
import GoSem.ClaimMapViews
import Derived.JoinedTies
import Derived.KernelRfl
namespace Go.Proofs.YtkddijipdldinaaDoor
/- THE CELL 'sum', in the pinned program and in every row, IS THE sha256 OF THE DUMP (.gsa) THAT YtkddijipdldinaaDoorProg.lean LOADS. Nothing in Lean hashes anything: it is a label: what it is worth is what the hold of that sum in a sandbox is worth. -/
noncomputable def Tryd.pinned : Pinned := { name := "ytkddijipdldinaadoor", sum := "88358240d9be86e2bbcd61f06ae71508bbcf95965acdecdf8a51cfa2c411f17c", checked := Tryd.checked }
namespace Rows
def none {H : Type} : Left H := { results := [], args := [] }

/- WHAT THE LISTED PACKAGE-LEVEL VARIABLES READ AS WHEN THE CALL BEGINS. Each datum BY PROGRAM (the guide's laid-datum.mjs) off the statement by which the dump's own 'gosem.cut.vars' lays the variable. In a bare row this is a premise. The card (YtkddijipdldinaaDoorCards.lean) ties it to the program's text. -/
def laid_coppice_crc_halves {H : Type} : DataW H := .agg [.lit (.int .u32 0), .lit (.int .u32 274646895), .lit (.int .u32 549293790), .lit (.int .u32 820201905), .lit (.int .u32 1098587580), .lit (.int .u32 1361435347), .lit (.int .u32 1640403810), .lit (.int .u32 1905808397), .lit (.int .u32 2197175160), .lit (.int .u32 2460548119), .lit (.int .u32 2722870694), .lit (.int .u32 2987750089), .lit (.int .u32 3280807620), .lit (.int .u32 3553878443), .lit (.int .u32 3811616794), .lit (.int .u32 4084100981)]

/-- 'coppicelaw01.CrcSums': WHATEVER THE INPUT: true; the input reads as it did. -/
def crcSumsSpec : ChangeSpec := { name := "crcSums", fn := fun _ => fun
  | [d1, d2] => { results := [.lit (.bool true)], args := [d1, d2] }
  | _ => none }
def crcSumsRow : OpenClaim := { program := "ytkddijipdldinaadoor", sum := "88358240d9be86e2bbcd61f06ae71508bbcf95965acdecdf8a51cfa2c411f17c", func := "coppice/coppicelaw01.CrcSums", spec := "crcSums", named := ["coppice/crc.halves"], apart := false, laid := [("coppice/crc.halves", laid_coppice_crc_halves)] }
def CrcSumsSaid : Prop := crcSumsRow.holds Tryd.pinned (OpenSpec.ofChange crcSumsSpec)

/-- ITS FALSE NEIGHBOUR: 'it returns false'. Refute it at one input. -/
def crcSumsWrong : ChangeSpec := { name := "crcSums", fn := fun _ => fun
  | [d1, d2] => { results := [.lit (.bool false)], args := [d1, d2] }
  | _ => none }
def CrcSumsWrongFalsely : Prop := crcSumsRow.holds Tryd.pinned (OpenSpec.ofChange crcSumsWrong)

/-- 'coppicelaw01.CrcPieces': WHATEVER THE INPUT: true; the input reads as it did. -/
def crcPiecesSpec : ChangeSpec := { name := "crcPieces", fn := fun _ => fun
  | [d1, d2, d3] => { results := [.lit (.bool true)], args := [d1, d2, d3] }
  | _ => none }
def crcPiecesRow : OpenClaim := { program := "ytkddijipdldinaadoor", sum := "88358240d9be86e2bbcd61f06ae71508bbcf95965acdecdf8a51cfa2c411f17c", func := "coppice/coppicelaw01.CrcPieces", spec := "crcPieces", named := ["coppice/crc.halves"], apart := false, laid := [("coppice/crc.halves", laid_coppice_crc_halves)] }
def CrcPiecesSaid : Prop := crcPiecesRow.holds Tryd.pinned (OpenSpec.ofChange crcPiecesSpec)

/-- ITS FALSE NEIGHBOUR: 'it returns false'. Refute it at one input. -/
def crcPiecesWrong : ChangeSpec := { name := "crcPieces", fn := fun _ => fun
  | [d1, d2, d3] => { results := [.lit (.bool false)], args := [d1, d2, d3] }
  | _ => none }
def CrcPiecesWrongFalsely : Prop := crcPiecesRow.holds Tryd.pinned (OpenSpec.ofChange crcPiecesWrong)

/-- 'coppicelaw01.CrcTurns': WHATEVER THE INPUT: true; the input reads as it did. -/
def crcTurnsSpec : ChangeSpec := { name := "crcTurns", fn := fun _ => fun
  | [d1, d2, d3] => { results := [.lit (.bool true)], args := [d1, d2, d3] }
  | _ => none }
def crcTurnsRow : OpenClaim := { program := "ytkddijipdldinaadoor", sum := "88358240d9be86e2bbcd61f06ae71508bbcf95965acdecdf8a51cfa2c411f17c", func := "coppice/coppicelaw01.CrcTurns", spec := "crcTurns", named := ["coppice/crc.halves"], apart := false, laid := [("coppice/crc.halves", laid_coppice_crc_halves)] }
def CrcTurnsSaid : Prop := crcTurnsRow.holds Tryd.pinned (OpenSpec.ofChange crcTurnsSpec)

/-- ITS FALSE NEIGHBOUR: 'it returns false'. Refute it at one input. -/
def crcTurnsWrong : ChangeSpec := { name := "crcTurns", fn := fun _ => fun
  | [d1, d2, d3] => { results := [.lit (.bool false)], args := [d1, d2, d3] }
  | _ => none }
def CrcTurnsWrongFalsely : Prop := crcTurnsRow.holds Tryd.pinned (OpenSpec.ofChange crcTurnsWrong)

/-- 'coppicelaw01.CrcThrees': WHATEVER THE INPUT: true; the input reads as it did. -/
def crcThreesSpec : ChangeSpec := { name := "crcThrees", fn := fun _ => fun
  | [d1, d2, d3] => { results := [.lit (.bool true)], args := [d1, d2, d3] }
  | _ => none }
def crcThreesRow : OpenClaim := { program := "ytkddijipdldinaadoor", sum := "88358240d9be86e2bbcd61f06ae71508bbcf95965acdecdf8a51cfa2c411f17c", func := "coppice/coppicelaw01.CrcThrees", spec := "crcThrees", named := ["coppice/crc.halves"], apart := false, laid := [("coppice/crc.halves", laid_coppice_crc_halves)] }
def CrcThreesSaid : Prop := crcThreesRow.holds Tryd.pinned (OpenSpec.ofChange crcThreesSpec)

/-- ITS FALSE NEIGHBOUR: 'it returns false'. Refute it at one input. -/
def crcThreesWrong : ChangeSpec := { name := "crcThrees", fn := fun _ => fun
  | [d1, d2, d3] => { results := [.lit (.bool false)], args := [d1, d2, d3] }
  | _ => none }
def CrcThreesWrongFalsely : Prop := crcThreesRow.holds Tryd.pinned (OpenSpec.ofChange crcThreesWrong)

/-- 'coppicelaw01.CrcKeeps': WHATEVER THE INPUT: true; the input reads as it did. -/
def crcKeepsSpec : ChangeSpec := { name := "crcKeeps", fn := fun _ => fun
  | [d1, d2] => { results := [.lit (.bool true)], args := [d1, d2] }
  | _ => none }
def crcKeepsRow : OpenClaim := { program := "ytkddijipdldinaadoor", sum := "88358240d9be86e2bbcd61f06ae71508bbcf95965acdecdf8a51cfa2c411f17c", func := "coppice/coppicelaw01.CrcKeeps", spec := "crcKeeps", named := ["coppice/crc.halves"], apart := false, laid := [("coppice/crc.halves", laid_coppice_crc_halves)] }
def CrcKeepsSaid : Prop := crcKeepsRow.holds Tryd.pinned (OpenSpec.ofChange crcKeepsSpec)

/-- ITS FALSE NEIGHBOUR: 'it returns false'. Refute it at one input. -/
def crcKeepsWrong : ChangeSpec := { name := "crcKeeps", fn := fun _ => fun
  | [d1, d2] => { results := [.lit (.bool false)], args := [d1, d2] }
  | _ => none }
def CrcKeepsWrongFalsely : Prop := crcKeepsRow.holds Tryd.pinned (OpenSpec.ofChange crcKeepsWrong)

/- THE SECOND FORM. 'bulk': how many values and letters a reading holds, each counted each time it is reached (what is shared counts as often as it is met; a slice's spare places count too). A statement '..UptoSaid' is the law's where the arguments, and the package variables that the reading takes, are together of bulk at most 1048576: NARROWER than '..Said'. Prove '..Said' where nothing that the law and all that it calls make is longer than what came in: it says more and counts as full. Else prove '..UptoSaid'. A law counts once. -/
mutual
def uptoBulk {H : Type} : DataW H → Nat
  | .lit (.string bytes) => bytes.length + 1
  | .lit _ => 1
  | .nil => 1
  | .ptr d => uptoBulk d + 1
  | .slice elems spare => uptoBulkAll elems + uptoBulkAll spare + 1
  | .agg parts => uptoBulkAll parts + 1
  | .iface _ d => uptoBulk d + 1
  | .map entries => uptoBulkEntries entries + 1
  | .held _ => 1
def uptoBulkAll {H : Type} : List (DataW H) → Nat
  | [] => 0
  | d :: r => uptoBulk d + uptoBulkAll r
def uptoBulkEntries {H : Type} : List (Lit × DataW H) → Nat
  | [] => 0
  | x :: r => uptoBulkEntry x + uptoBulkEntries r
def uptoBulkEntry {H : Type} : Lit × DataW H → Nat
  | (.string bytes, d) => bytes.length + uptoBulk d + 1
  | (_, d) => uptoBulk d + 1
 end
def uptoSmall : (H : Type) → List (DataW H) → Bool := fun _ ds => decide (uptoBulkAll ds ≤ 1048576)
def OpenSpec.upto (s : _root_.Go.ChangeSpec) : _root_.Go.OpenSpec := { _root_.Go.OpenSpec.ofChange s with cond := some uptoSmall }

/-- 'coppicelaw01.CrcSums', WHERE WHAT IT READS IS OF BULK AT MOST 1048576: true; the input reads as it did. -/
def crcSumsUptoRow : OpenClaim := { program := "ytkddijipdldinaadoor", sum := "88358240d9be86e2bbcd61f06ae71508bbcf95965acdecdf8a51cfa2c411f17c", func := "coppice/coppicelaw01.CrcSums", spec := "crcSums", named := ["coppice/crc.halves"], apart := false, laid := [("coppice/crc.halves", laid_coppice_crc_halves)], narrowed := true }
def CrcSumsUptoSaid : Prop := crcSumsUptoRow.holds Tryd.pinned (OpenSpec.upto crcSumsSpec)

/-- 'coppicelaw01.CrcPieces', WHERE WHAT IT READS IS OF BULK AT MOST 1048576: true; the input reads as it did. -/
def crcPiecesUptoRow : OpenClaim := { program := "ytkddijipdldinaadoor", sum := "88358240d9be86e2bbcd61f06ae71508bbcf95965acdecdf8a51cfa2c411f17c", func := "coppice/coppicelaw01.CrcPieces", spec := "crcPieces", named := ["coppice/crc.halves"], apart := false, laid := [("coppice/crc.halves", laid_coppice_crc_halves)], narrowed := true }
def CrcPiecesUptoSaid : Prop := crcPiecesUptoRow.holds Tryd.pinned (OpenSpec.upto crcPiecesSpec)

/-- 'coppicelaw01.CrcTurns', WHERE WHAT IT READS IS OF BULK AT MOST 1048576: true; the input reads as it did. -/
def crcTurnsUptoRow : OpenClaim := { program := "ytkddijipdldinaadoor", sum := "88358240d9be86e2bbcd61f06ae71508bbcf95965acdecdf8a51cfa2c411f17c", func := "coppice/coppicelaw01.CrcTurns", spec := "crcTurns", named := ["coppice/crc.halves"], apart := false, laid := [("coppice/crc.halves", laid_coppice_crc_halves)], narrowed := true }
def CrcTurnsUptoSaid : Prop := crcTurnsUptoRow.holds Tryd.pinned (OpenSpec.upto crcTurnsSpec)

/-- 'coppicelaw01.CrcThrees', WHERE WHAT IT READS IS OF BULK AT MOST 1048576: true; the input reads as it did. -/
def crcThreesUptoRow : OpenClaim := { program := "ytkddijipdldinaadoor", sum := "88358240d9be86e2bbcd61f06ae71508bbcf95965acdecdf8a51cfa2c411f17c", func := "coppice/coppicelaw01.CrcThrees", spec := "crcThrees", named := ["coppice/crc.halves"], apart := false, laid := [("coppice/crc.halves", laid_coppice_crc_halves)], narrowed := true }
def CrcThreesUptoSaid : Prop := crcThreesUptoRow.holds Tryd.pinned (OpenSpec.upto crcThreesSpec)

/-- 'coppicelaw01.CrcKeeps', WHERE WHAT IT READS IS OF BULK AT MOST 1048576: true; the input reads as it did. -/
def crcKeepsUptoRow : OpenClaim := { program := "ytkddijipdldinaadoor", sum := "88358240d9be86e2bbcd61f06ae71508bbcf95965acdecdf8a51cfa2c411f17c", func := "coppice/coppicelaw01.CrcKeeps", spec := "crcKeeps", named := ["coppice/crc.halves"], apart := false, laid := [("coppice/crc.halves", laid_coppice_crc_halves)], narrowed := true }
def CrcKeepsUptoSaid : Prop := crcKeepsUptoRow.holds Tryd.pinned (OpenSpec.upto crcKeepsSpec)

end Rows
end Go.Proofs.YtkddijipdldinaaDoor
