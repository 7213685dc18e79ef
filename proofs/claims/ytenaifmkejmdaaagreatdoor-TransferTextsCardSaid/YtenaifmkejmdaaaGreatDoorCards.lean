/-
  DERIVED. GIVEN WITH THE SEED: THE CARDS: each row of YtenaifmkejmdaaaGreatDoorRows.lean that lists a variable, with what it lists TIED to the program's text (the seventh form; the later family's looks); each row that meets fmt, with fmt's text TOLD by the authors' own Lean function (tested against real Go, not proved from fmt's source: count such statements apart). THE CARD IS WHAT COUNTS. Prove the row's statement (the work); the ties are given (YtenaifmkejmdaaaGreatDoorTie.lean); close each card by the builder's one call (the guide's Derived/Test/ToyasCard.lean, 'card_holds'). Laid BY PROGRAM, IN A SANDBOX (cutbox-door.mjs). By AI agents, Wed Nov 11 2026. No macro, syntax, notation, axiom, sorry.
-/
import Derived.Test.YtenaifmkejmdaaaGreatDoorRows
import GoSem.ClaimSeven
namespace Go.Proofs.YtenaifmkejmdaaaGreatDoor
namespace Rows

/-- THE TIED CARD OF 'archivumlaw16.TransferTotals'. -/
def transferTotalsCard : Claim7 := { stood := { row := transferTotalsRow, standIns := [], harness := (true, "b32df281fc8bdf68dcb60e27fa29be050922731c6b0b2a7128bb36c87ba951b9"), looks := true }, kinds := [], alts := [], laidByText := true, laidKinds := [.data, .data, .data, .data, .sentinel, .sentinel, .pinned], laidTests := true, laidLooks := .later }
def TransferTotalsCardSaid : Prop := Claim7.holds Tryz.pinned (.plain (OpenSpec.ofChange transferTotalsSpec)) transferTotalsCard

/-- THE TIED CARD OF 'archivumlaw16.TransferTexts'. -/
def transferTextsCard : Claim7 := { stood := { row := transferTextsRow, standIns := [], harness := (true, "b32df281fc8bdf68dcb60e27fa29be050922731c6b0b2a7128bb36c87ba951b9"), looks := true }, kinds := [], alts := [], laidByText := true, laidKinds := [.data, .data, .data, .data, .sentinel, .sentinel, .pinned], laidTests := true, laidLooks := .later }
def TransferTextsCardSaid : Prop := Claim7.holds Tryz.pinned (.plain (OpenSpec.ofChange transferTextsSpec)) transferTextsCard

/-- THE TIED CARD OF 'archivumlaw16.TransferChecks'. -/
def transferChecksCard : Claim7 := { stood := { row := transferChecksRow, standIns := [], harness := (true, "b32df281fc8bdf68dcb60e27fa29be050922731c6b0b2a7128bb36c87ba951b9"), looks := true }, kinds := [], alts := [], laidByText := true, laidKinds := [.data, .data, .data, .data, .sentinel, .sentinel, .pinned], laidTests := true, laidLooks := .later }
def TransferChecksCardSaid : Prop := Claim7.holds Tryz.pinned (.plain (OpenSpec.ofChange transferChecksSpec)) transferChecksCard

/-- THE TIED CARD OF 'archivumlaw16.TransferDiffers'. -/
def transferDiffersCard : Claim7 := { stood := { row := transferDiffersRow, standIns := [], harness := (true, "b32df281fc8bdf68dcb60e27fa29be050922731c6b0b2a7128bb36c87ba951b9"), looks := true }, kinds := [], alts := [], laidByText := true, laidKinds := [.data, .data, .data, .data, .sentinel, .sentinel, .pinned], laidTests := true, laidLooks := .later }
def TransferDiffersCardSaid : Prop := Claim7.holds Tryz.pinned (.plain (OpenSpec.ofChange transferDiffersSpec)) transferDiffersCard

/-- THE TIED CARD OF 'archivumlaw16.TransferEqual'. -/
def transferEqualCard : Claim7 := { stood := { row := transferEqualRow, standIns := [], harness := (true, "b32df281fc8bdf68dcb60e27fa29be050922731c6b0b2a7128bb36c87ba951b9"), looks := true }, kinds := [], alts := [], laidByText := true, laidKinds := [.data, .data, .data, .data, .sentinel, .sentinel, .pinned], laidTests := true, laidLooks := .later }
def TransferEqualCardSaid : Prop := Claim7.holds Tryz.pinned (.plain (OpenSpec.ofChange transferEqualSpec)) transferEqualCard

/-- THE SECOND FORM's CARD OF 'archivumlaw16.TransferTotals'. -/
def transferTotalsUptoCard : Claim7 := { stood := { row := transferTotalsUptoRow, standIns := [], harness := (true, "b32df281fc8bdf68dcb60e27fa29be050922731c6b0b2a7128bb36c87ba951b9"), looks := true }, kinds := [], alts := [], laidByText := true, laidKinds := [.data, .data, .data, .data, .sentinel, .sentinel, .pinned], laidTests := true, laidLooks := .later }
def TransferTotalsUptoCardSaid : Prop := Claim7.holds Tryz.pinned (.plain (OpenSpec.upto transferTotalsSpec)) transferTotalsUptoCard

/-- THE SECOND FORM's CARD OF 'archivumlaw16.TransferTexts'. -/
def transferTextsUptoCard : Claim7 := { stood := { row := transferTextsUptoRow, standIns := [], harness := (true, "b32df281fc8bdf68dcb60e27fa29be050922731c6b0b2a7128bb36c87ba951b9"), looks := true }, kinds := [], alts := [], laidByText := true, laidKinds := [.data, .data, .data, .data, .sentinel, .sentinel, .pinned], laidTests := true, laidLooks := .later }
def TransferTextsUptoCardSaid : Prop := Claim7.holds Tryz.pinned (.plain (OpenSpec.upto transferTextsSpec)) transferTextsUptoCard

/-- THE SECOND FORM's CARD OF 'archivumlaw16.TransferChecks'. -/
def transferChecksUptoCard : Claim7 := { stood := { row := transferChecksUptoRow, standIns := [], harness := (true, "b32df281fc8bdf68dcb60e27fa29be050922731c6b0b2a7128bb36c87ba951b9"), looks := true }, kinds := [], alts := [], laidByText := true, laidKinds := [.data, .data, .data, .data, .sentinel, .sentinel, .pinned], laidTests := true, laidLooks := .later }
def TransferChecksUptoCardSaid : Prop := Claim7.holds Tryz.pinned (.plain (OpenSpec.upto transferChecksSpec)) transferChecksUptoCard

/-- THE SECOND FORM's CARD OF 'archivumlaw16.TransferDiffers'. -/
def transferDiffersUptoCard : Claim7 := { stood := { row := transferDiffersUptoRow, standIns := [], harness := (true, "b32df281fc8bdf68dcb60e27fa29be050922731c6b0b2a7128bb36c87ba951b9"), looks := true }, kinds := [], alts := [], laidByText := true, laidKinds := [.data, .data, .data, .data, .sentinel, .sentinel, .pinned], laidTests := true, laidLooks := .later }
def TransferDiffersUptoCardSaid : Prop := Claim7.holds Tryz.pinned (.plain (OpenSpec.upto transferDiffersSpec)) transferDiffersUptoCard

/-- THE SECOND FORM's CARD OF 'archivumlaw16.TransferEqual'. -/
def transferEqualUptoCard : Claim7 := { stood := { row := transferEqualUptoRow, standIns := [], harness := (true, "b32df281fc8bdf68dcb60e27fa29be050922731c6b0b2a7128bb36c87ba951b9"), looks := true }, kinds := [], alts := [], laidByText := true, laidKinds := [.data, .data, .data, .data, .sentinel, .sentinel, .pinned], laidTests := true, laidLooks := .later }
def TransferEqualUptoCardSaid : Prop := Claim7.holds Tryz.pinned (.plain (OpenSpec.upto transferEqualSpec)) transferEqualUptoCard
end Rows
end Go.Proofs.YtenaifmkejmdaaaGreatDoor
