/-
  DERIVED. GIVEN WITH THE SEED: THE CARDS: each row of YtenaifmkejmdaaaDoorRows.lean that lists a variable, with what it lists TIED to the program's text (the seventh form; the later family's looks); each row that meets fmt, with fmt's text TOLD by the authors' own Lean function (tested against real Go, not proved from fmt's source: count such statements apart). THE CARD IS WHAT COUNTS. Prove the row's statement (the work); the ties are given (YtenaifmkejmdaaaDoorTie.lean); close each card by the builder's one call (the guide's Derived/Test/ToyasCard.lean, 'card_holds'). Laid BY PROGRAM, IN A SANDBOX (cutbox-door.mjs). By AI agents, Wed Nov 11 2026. No macro, syntax, notation, axiom, sorry.
-/
import Derived.Test.YtenaifmkejmdaaaDoorRows
import GoSem.ClaimSeven
namespace Go.Proofs.YtenaifmkejmdaaaDoor
namespace Rows

/-- THE TIED CARD OF 'archivumlaw16.TransferReturns'. -/
def transferReturnsCard : Claim7 := { stood := { row := transferReturnsRow, standIns := [], harness := (true, "eb4d354544fc992164d74b67b68388cbe4c1f7cbc2191b26d18f9d10dd7a0069"), looks := true }, kinds := [], alts := [], laidByText := true, laidKinds := [.data, .data, .data, .data, .sentinel, .sentinel, .pinned], laidTests := true, laidLooks := .later }
def TransferReturnsCardSaid : Prop := Claim7.holds Tryd.pinned (.plain (OpenSpec.ofChange transferReturnsSpec)) transferReturnsCard

/-- THE TIED CARD OF 'archivumlaw16.TransferParts'. -/
def transferPartsCard : Claim7 := { stood := { row := transferPartsRow, standIns := [], harness := (true, "eb4d354544fc992164d74b67b68388cbe4c1f7cbc2191b26d18f9d10dd7a0069"), looks := true }, kinds := [], alts := [], laidByText := true, laidKinds := [.data, .data, .data, .data, .sentinel, .sentinel, .pinned], laidTests := true, laidLooks := .later }
def TransferPartsCardSaid : Prop := Claim7.holds Tryd.pinned (.plain (OpenSpec.ofChange transferPartsSpec)) transferPartsCard

/-- THE TIED CARD OF 'archivumlaw16.TransferSums'. -/
def transferSumsCard : Claim7 := { stood := { row := transferSumsRow, standIns := [], harness := (true, "eb4d354544fc992164d74b67b68388cbe4c1f7cbc2191b26d18f9d10dd7a0069"), looks := true }, kinds := [], alts := [], laidByText := true, laidKinds := [.data, .data, .data, .data, .sentinel, .sentinel, .pinned], laidTests := true, laidLooks := .later }
def TransferSumsCardSaid : Prop := Claim7.holds Tryd.pinned (.plain (OpenSpec.ofChange transferSumsSpec)) transferSumsCard

/-- THE SECOND FORM's CARD OF 'archivumlaw16.TransferReturns'. -/
def transferReturnsUptoCard : Claim7 := { stood := { row := transferReturnsUptoRow, standIns := [], harness := (true, "eb4d354544fc992164d74b67b68388cbe4c1f7cbc2191b26d18f9d10dd7a0069"), looks := true }, kinds := [], alts := [], laidByText := true, laidKinds := [.data, .data, .data, .data, .sentinel, .sentinel, .pinned], laidTests := true, laidLooks := .later }
def TransferReturnsUptoCardSaid : Prop := Claim7.holds Tryd.pinned (.plain (OpenSpec.upto transferReturnsSpec)) transferReturnsUptoCard

/-- THE SECOND FORM's CARD OF 'archivumlaw16.TransferParts'. -/
def transferPartsUptoCard : Claim7 := { stood := { row := transferPartsUptoRow, standIns := [], harness := (true, "eb4d354544fc992164d74b67b68388cbe4c1f7cbc2191b26d18f9d10dd7a0069"), looks := true }, kinds := [], alts := [], laidByText := true, laidKinds := [.data, .data, .data, .data, .sentinel, .sentinel, .pinned], laidTests := true, laidLooks := .later }
def TransferPartsUptoCardSaid : Prop := Claim7.holds Tryd.pinned (.plain (OpenSpec.upto transferPartsSpec)) transferPartsUptoCard

/-- THE SECOND FORM's CARD OF 'archivumlaw16.TransferSums'. -/
def transferSumsUptoCard : Claim7 := { stood := { row := transferSumsUptoRow, standIns := [], harness := (true, "eb4d354544fc992164d74b67b68388cbe4c1f7cbc2191b26d18f9d10dd7a0069"), looks := true }, kinds := [], alts := [], laidByText := true, laidKinds := [.data, .data, .data, .data, .sentinel, .sentinel, .pinned], laidTests := true, laidLooks := .later }
def TransferSumsUptoCardSaid : Prop := Claim7.holds Tryd.pinned (.plain (OpenSpec.upto transferSumsSpec)) transferSumsUptoCard
end Rows
end Go.Proofs.YtenaifmkejmdaaaDoor
