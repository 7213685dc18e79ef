/-
  DERIVED. GIVEN WITH THE SEED: THE CARDS: each row of YtbmlnflacdockaaDoorRows.lean that lists a variable, with what it lists TIED to the program's text (the seventh form; the later family's looks); each row that meets fmt, with fmt's text TOLD by the authors' own Lean function (tested against real Go, not proved from fmt's source: count such statements apart). THE CARD IS WHAT COUNTS. Prove the row's statement (the work); the ties are given (YtbmlnflacdockaaDoorTie.lean); close each card by the builder's one call (the guide's Derived/Test/ToyasCard.lean, 'card_holds'). Laid BY PROGRAM, IN A SANDBOX (cutbox-door.mjs). By AI agents, Wed Nov 11 2026. No macro, syntax, notation, axiom, sorry.
-/
import Derived.Test.YtbmlnflacdockaaDoorRows
import GoSem.ClaimSeven
namespace Go.Proofs.YtbmlnflacdockaaDoor
namespace Rows

/-- THE TIED CARD OF 'archivumlaw47.AidDocuments'. -/
def aidDocumentsCard : Claim7 := { stood := { row := aidDocumentsRow, standIns := [], harness := (true, "a89b98b4ad91e8dcab7e5bf4431d7fe403915f0d75c50665df23806785b7a8dd"), looks := true }, kinds := [], alts := [], laidByText := true, laidKinds := [.data, .data, .data, .sentinel, .sentinel], laidTests := true, laidLooks := .later }
def AidDocumentsCardSaid : Prop := Claim7.holds Tryd.pinned (.plain (OpenSpec.ofChange aidDocumentsSpec)) aidDocumentsCard

/-- THE TIED CARD OF 'archivumlaw47.AidOnce'. -/
def aidOnceCard : Claim7 := { stood := { row := aidOnceRow, standIns := [], harness := (true, "a89b98b4ad91e8dcab7e5bf4431d7fe403915f0d75c50665df23806785b7a8dd"), looks := true }, kinds := [], alts := [], laidByText := true, laidKinds := [.data, .data, .data, .sentinel, .sentinel], laidTests := true, laidLooks := .later }
def AidOnceCardSaid : Prop := Claim7.holds Tryd.pinned (.plain (OpenSpec.ofChange aidOnceSpec)) aidOnceCard

/-- THE TIED CARD OF 'archivumlaw47.AidApart'. -/
def aidApartCard : Claim7 := { stood := { row := aidApartRow, standIns := [], harness := (true, "a89b98b4ad91e8dcab7e5bf4431d7fe403915f0d75c50665df23806785b7a8dd"), looks := true }, kinds := [], alts := [], laidByText := true, laidKinds := [.data, .data, .data, .sentinel, .sentinel], laidTests := true, laidLooks := .later }
def AidApartCardSaid : Prop := Claim7.holds Tryd.pinned (.plain (OpenSpec.ofChange aidApartSpec)) aidApartCard

/-- THE TIED CARD OF 'archivumlaw47.AidChosen'. -/
def aidChosenCard : Claim7 := { stood := { row := aidChosenRow, standIns := [], harness := (true, "a89b98b4ad91e8dcab7e5bf4431d7fe403915f0d75c50665df23806785b7a8dd"), looks := true }, kinds := [], alts := [], laidByText := true, laidKinds := [.data, .data, .data, .sentinel, .sentinel], laidTests := true, laidLooks := .later }
def AidChosenCardSaid : Prop := Claim7.holds Tryd.pinned (.plain (OpenSpec.ofChange aidChosenSpec)) aidChosenCard

/-- THE TIED CARD OF 'archivumlaw47.AidParts'. -/
def aidPartsCard : Claim7 := { stood := { row := aidPartsRow, standIns := [], harness := (true, "a89b98b4ad91e8dcab7e5bf4431d7fe403915f0d75c50665df23806785b7a8dd"), looks := true }, kinds := [], alts := [], laidByText := true, laidKinds := [.data, .data, .data, .sentinel, .sentinel], laidTests := true, laidLooks := .later }
def AidPartsCardSaid : Prop := Claim7.holds Tryd.pinned (.plain (OpenSpec.ofChange aidPartsSpec)) aidPartsCard

/-- THE SECOND FORM's CARD OF 'archivumlaw47.AidDocuments'. -/
def aidDocumentsUptoCard : Claim7 := { stood := { row := aidDocumentsUptoRow, standIns := [], harness := (true, "a89b98b4ad91e8dcab7e5bf4431d7fe403915f0d75c50665df23806785b7a8dd"), looks := true }, kinds := [], alts := [], laidByText := true, laidKinds := [.data, .data, .data, .sentinel, .sentinel], laidTests := true, laidLooks := .later }
def AidDocumentsUptoCardSaid : Prop := Claim7.holds Tryd.pinned (.plain (OpenSpec.upto aidDocumentsSpec)) aidDocumentsUptoCard

/-- THE SECOND FORM's CARD OF 'archivumlaw47.AidOnce'. -/
def aidOnceUptoCard : Claim7 := { stood := { row := aidOnceUptoRow, standIns := [], harness := (true, "a89b98b4ad91e8dcab7e5bf4431d7fe403915f0d75c50665df23806785b7a8dd"), looks := true }, kinds := [], alts := [], laidByText := true, laidKinds := [.data, .data, .data, .sentinel, .sentinel], laidTests := true, laidLooks := .later }
def AidOnceUptoCardSaid : Prop := Claim7.holds Tryd.pinned (.plain (OpenSpec.upto aidOnceSpec)) aidOnceUptoCard

/-- THE SECOND FORM's CARD OF 'archivumlaw47.AidApart'. -/
def aidApartUptoCard : Claim7 := { stood := { row := aidApartUptoRow, standIns := [], harness := (true, "a89b98b4ad91e8dcab7e5bf4431d7fe403915f0d75c50665df23806785b7a8dd"), looks := true }, kinds := [], alts := [], laidByText := true, laidKinds := [.data, .data, .data, .sentinel, .sentinel], laidTests := true, laidLooks := .later }
def AidApartUptoCardSaid : Prop := Claim7.holds Tryd.pinned (.plain (OpenSpec.upto aidApartSpec)) aidApartUptoCard

/-- THE SECOND FORM's CARD OF 'archivumlaw47.AidChosen'. -/
def aidChosenUptoCard : Claim7 := { stood := { row := aidChosenUptoRow, standIns := [], harness := (true, "a89b98b4ad91e8dcab7e5bf4431d7fe403915f0d75c50665df23806785b7a8dd"), looks := true }, kinds := [], alts := [], laidByText := true, laidKinds := [.data, .data, .data, .sentinel, .sentinel], laidTests := true, laidLooks := .later }
def AidChosenUptoCardSaid : Prop := Claim7.holds Tryd.pinned (.plain (OpenSpec.upto aidChosenSpec)) aidChosenUptoCard

/-- THE SECOND FORM's CARD OF 'archivumlaw47.AidParts'. -/
def aidPartsUptoCard : Claim7 := { stood := { row := aidPartsUptoRow, standIns := [], harness := (true, "a89b98b4ad91e8dcab7e5bf4431d7fe403915f0d75c50665df23806785b7a8dd"), looks := true }, kinds := [], alts := [], laidByText := true, laidKinds := [.data, .data, .data, .sentinel, .sentinel], laidTests := true, laidLooks := .later }
def AidPartsUptoCardSaid : Prop := Claim7.holds Tryd.pinned (.plain (OpenSpec.upto aidPartsSpec)) aidPartsUptoCard
end Rows
end Go.Proofs.YtbmlnflacdockaaDoor
