/-
  DERIVED. GIVEN WITH THE SEED: THE CARDS: each row of YtkddijipdldinaaDoorRows.lean that lists a variable, with what it lists TIED to the program's text (the seventh form; the later family's looks); each row that meets fmt, with fmt's text TOLD by the authors' own Lean function (tested against real Go, not proved from fmt's source: count such statements apart). THE CARD IS WHAT COUNTS. Prove the row's statement (the work); the ties are given (YtkddijipdldinaaDoorTie.lean); close each card by the builder's one call (the guide's Derived/Test/ToyasCard.lean, 'card_holds'). Laid BY PROGRAM, IN A SANDBOX (cutbox-door.mjs). By AI agents, Wed Nov 11 2026. No macro, syntax, notation, axiom, sorry.
-/
import Derived.Test.YtkddijipdldinaaDoorRows
import GoSem.ClaimSeven
namespace Go.Proofs.YtkddijipdldinaaDoor
namespace Rows

/-- THE TIED CARD OF 'coppicelaw01.CrcSums'. -/
def crcSumsCard : Claim7 := { stood := { row := crcSumsRow, standIns := [], harness := (true, "ea74a0440e17c1185406b3c060bfec560ff0cbd33aef261d441fcbeaf292e9a6"), looks := false }, kinds := [], alts := [], laidByText := true, laidKinds := [.data], laidTests := true, laidLooks := .later }
def CrcSumsCardSaid : Prop := Claim7.holds Tryd.pinned (.plain (OpenSpec.ofChange crcSumsSpec)) crcSumsCard

/-- THE TIED CARD OF 'coppicelaw01.CrcPieces'. -/
def crcPiecesCard : Claim7 := { stood := { row := crcPiecesRow, standIns := [], harness := (true, "ea74a0440e17c1185406b3c060bfec560ff0cbd33aef261d441fcbeaf292e9a6"), looks := false }, kinds := [], alts := [], laidByText := true, laidKinds := [.data], laidTests := true, laidLooks := .later }
def CrcPiecesCardSaid : Prop := Claim7.holds Tryd.pinned (.plain (OpenSpec.ofChange crcPiecesSpec)) crcPiecesCard

/-- THE TIED CARD OF 'coppicelaw01.CrcTurns'. -/
def crcTurnsCard : Claim7 := { stood := { row := crcTurnsRow, standIns := [], harness := (true, "ea74a0440e17c1185406b3c060bfec560ff0cbd33aef261d441fcbeaf292e9a6"), looks := false }, kinds := [], alts := [], laidByText := true, laidKinds := [.data], laidTests := true, laidLooks := .later }
def CrcTurnsCardSaid : Prop := Claim7.holds Tryd.pinned (.plain (OpenSpec.ofChange crcTurnsSpec)) crcTurnsCard

/-- THE TIED CARD OF 'coppicelaw01.CrcThrees'. -/
def crcThreesCard : Claim7 := { stood := { row := crcThreesRow, standIns := [], harness := (true, "ea74a0440e17c1185406b3c060bfec560ff0cbd33aef261d441fcbeaf292e9a6"), looks := false }, kinds := [], alts := [], laidByText := true, laidKinds := [.data], laidTests := true, laidLooks := .later }
def CrcThreesCardSaid : Prop := Claim7.holds Tryd.pinned (.plain (OpenSpec.ofChange crcThreesSpec)) crcThreesCard

/-- THE TIED CARD OF 'coppicelaw01.CrcKeeps'. -/
def crcKeepsCard : Claim7 := { stood := { row := crcKeepsRow, standIns := [], harness := (true, "ea74a0440e17c1185406b3c060bfec560ff0cbd33aef261d441fcbeaf292e9a6"), looks := false }, kinds := [], alts := [], laidByText := true, laidKinds := [.data], laidTests := true, laidLooks := .later }
def CrcKeepsCardSaid : Prop := Claim7.holds Tryd.pinned (.plain (OpenSpec.ofChange crcKeepsSpec)) crcKeepsCard

/-- THE SECOND FORM's CARD OF 'coppicelaw01.CrcSums'. -/
def crcSumsUptoCard : Claim7 := { stood := { row := crcSumsUptoRow, standIns := [], harness := (true, "ea74a0440e17c1185406b3c060bfec560ff0cbd33aef261d441fcbeaf292e9a6"), looks := false }, kinds := [], alts := [], laidByText := true, laidKinds := [.data], laidTests := true, laidLooks := .later }
def CrcSumsUptoCardSaid : Prop := Claim7.holds Tryd.pinned (.plain (OpenSpec.upto crcSumsSpec)) crcSumsUptoCard

/-- THE SECOND FORM's CARD OF 'coppicelaw01.CrcPieces'. -/
def crcPiecesUptoCard : Claim7 := { stood := { row := crcPiecesUptoRow, standIns := [], harness := (true, "ea74a0440e17c1185406b3c060bfec560ff0cbd33aef261d441fcbeaf292e9a6"), looks := false }, kinds := [], alts := [], laidByText := true, laidKinds := [.data], laidTests := true, laidLooks := .later }
def CrcPiecesUptoCardSaid : Prop := Claim7.holds Tryd.pinned (.plain (OpenSpec.upto crcPiecesSpec)) crcPiecesUptoCard

/-- THE SECOND FORM's CARD OF 'coppicelaw01.CrcTurns'. -/
def crcTurnsUptoCard : Claim7 := { stood := { row := crcTurnsUptoRow, standIns := [], harness := (true, "ea74a0440e17c1185406b3c060bfec560ff0cbd33aef261d441fcbeaf292e9a6"), looks := false }, kinds := [], alts := [], laidByText := true, laidKinds := [.data], laidTests := true, laidLooks := .later }
def CrcTurnsUptoCardSaid : Prop := Claim7.holds Tryd.pinned (.plain (OpenSpec.upto crcTurnsSpec)) crcTurnsUptoCard

/-- THE SECOND FORM's CARD OF 'coppicelaw01.CrcThrees'. -/
def crcThreesUptoCard : Claim7 := { stood := { row := crcThreesUptoRow, standIns := [], harness := (true, "ea74a0440e17c1185406b3c060bfec560ff0cbd33aef261d441fcbeaf292e9a6"), looks := false }, kinds := [], alts := [], laidByText := true, laidKinds := [.data], laidTests := true, laidLooks := .later }
def CrcThreesUptoCardSaid : Prop := Claim7.holds Tryd.pinned (.plain (OpenSpec.upto crcThreesSpec)) crcThreesUptoCard

/-- THE SECOND FORM's CARD OF 'coppicelaw01.CrcKeeps'. -/
def crcKeepsUptoCard : Claim7 := { stood := { row := crcKeepsUptoRow, standIns := [], harness := (true, "ea74a0440e17c1185406b3c060bfec560ff0cbd33aef261d441fcbeaf292e9a6"), looks := false }, kinds := [], alts := [], laidByText := true, laidKinds := [.data], laidTests := true, laidLooks := .later }
def CrcKeepsUptoCardSaid : Prop := Claim7.holds Tryd.pinned (.plain (OpenSpec.upto crcKeepsSpec)) crcKeepsUptoCard
end Rows
end Go.Proofs.YtkddijipdldinaaDoor
