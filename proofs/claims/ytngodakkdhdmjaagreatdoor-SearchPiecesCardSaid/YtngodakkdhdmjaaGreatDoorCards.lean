/-
  DERIVED. GIVEN WITH THE SEED: THE CARDS: each row of YtngodakkdhdmjaaGreatDoorRows.lean that lists a variable, with what it lists TIED to the program's text (the seventh form; the later family's looks); each row that meets fmt, with fmt's text TOLD by the authors' own Lean function (tested against real Go, not proved from fmt's source: count such statements apart). THE CARD IS WHAT COUNTS. Prove the row's statement (the work); the ties are given (YtngodakkdhdmjaaGreatDoorTie.lean); close each card by the builder's one call (the guide's Derived/Test/ToyasCard.lean, 'card_holds'). Laid BY PROGRAM, IN A SANDBOX (cutbox-door.mjs). By AI agents, Wed Nov 11 2026. No macro, syntax, notation, axiom, sorry.
-/
import Derived.Test.YtngodakkdhdmjaaGreatDoorRows
import GoSem.ClaimSeven
namespace Go.Proofs.YtngodakkdhdmjaaGreatDoor
namespace Rows

/-- THE TIED CARD OF 'archivumlaw56.SearchPages'. -/
def searchPagesCard : Claim7 := { stood := { row := searchPagesRow, standIns := [], harness := (true, "550db86ae89acec0d42e890c3cf2666f953edc4201adba68e59c77d34d39f6e6"), looks := false }, kinds := [], alts := [], laidByText := true, laidKinds := [.data, .data, .data, .data, .pinned], laidTests := true, laidLooks := .later }
def SearchPagesCardSaid : Prop := Claim7.holds Tryz.pinned (.plain (OpenSpec.ofChange searchPagesSpec)) searchPagesCard

/-- THE TIED CARD OF 'archivumlaw56.SearchMatches'. -/
def searchMatchesCard : Claim7 := { stood := { row := searchMatchesRow, standIns := [], harness := (true, "550db86ae89acec0d42e890c3cf2666f953edc4201adba68e59c77d34d39f6e6"), looks := false }, kinds := [], alts := [], laidByText := true, laidKinds := [.data, .data, .data, .data, .pinned], laidTests := true, laidLooks := .later }
def SearchMatchesCardSaid : Prop := Claim7.holds Tryz.pinned (.plain (OpenSpec.ofChange searchMatchesSpec)) searchMatchesCard

/-- THE TIED CARD OF 'archivumlaw56.SearchSupported'. -/
def searchSupportedCard : Claim7 := { stood := { row := searchSupportedRow, standIns := [], harness := (true, "550db86ae89acec0d42e890c3cf2666f953edc4201adba68e59c77d34d39f6e6"), looks := false }, kinds := [], alts := [], laidByText := true, laidKinds := [.data, .data, .data, .data, .pinned], laidTests := true, laidLooks := .later }
def SearchSupportedCardSaid : Prop := Claim7.holds Tryz.pinned (.plain (OpenSpec.ofChange searchSupportedSpec)) searchSupportedCard

/-- THE TIED CARD OF 'archivumlaw56.SearchPieces'. -/
def searchPiecesCard : Claim7 := { stood := { row := searchPiecesRow, standIns := [], harness := (true, "550db86ae89acec0d42e890c3cf2666f953edc4201adba68e59c77d34d39f6e6"), looks := false }, kinds := [], alts := [], laidByText := true, laidKinds := [.data, .data, .data, .data, .pinned], laidTests := true, laidLooks := .later }
def SearchPiecesCardSaid : Prop := Claim7.holds Tryz.pinned (.plain (OpenSpec.ofChange searchPiecesSpec)) searchPiecesCard

/-- THE TIED CARD OF 'archivumlaw56.SearchUpdated'. -/
def searchUpdatedCard : Claim7 := { stood := { row := searchUpdatedRow, standIns := [], harness := (true, "550db86ae89acec0d42e890c3cf2666f953edc4201adba68e59c77d34d39f6e6"), looks := false }, kinds := [], alts := [], laidByText := true, laidKinds := [.data, .data, .data, .data, .pinned], laidTests := true, laidLooks := .later }
def SearchUpdatedCardSaid : Prop := Claim7.holds Tryz.pinned (.plain (OpenSpec.ofChange searchUpdatedSpec)) searchUpdatedCard

/-- THE SECOND FORM's CARD OF 'archivumlaw56.SearchPages'. -/
def searchPagesUptoCard : Claim7 := { stood := { row := searchPagesUptoRow, standIns := [], harness := (true, "550db86ae89acec0d42e890c3cf2666f953edc4201adba68e59c77d34d39f6e6"), looks := false }, kinds := [], alts := [], laidByText := true, laidKinds := [.data, .data, .data, .data, .pinned], laidTests := true, laidLooks := .later }
def SearchPagesUptoCardSaid : Prop := Claim7.holds Tryz.pinned (.plain (OpenSpec.upto searchPagesSpec)) searchPagesUptoCard

/-- THE SECOND FORM's CARD OF 'archivumlaw56.SearchMatches'. -/
def searchMatchesUptoCard : Claim7 := { stood := { row := searchMatchesUptoRow, standIns := [], harness := (true, "550db86ae89acec0d42e890c3cf2666f953edc4201adba68e59c77d34d39f6e6"), looks := false }, kinds := [], alts := [], laidByText := true, laidKinds := [.data, .data, .data, .data, .pinned], laidTests := true, laidLooks := .later }
def SearchMatchesUptoCardSaid : Prop := Claim7.holds Tryz.pinned (.plain (OpenSpec.upto searchMatchesSpec)) searchMatchesUptoCard

/-- THE SECOND FORM's CARD OF 'archivumlaw56.SearchSupported'. -/
def searchSupportedUptoCard : Claim7 := { stood := { row := searchSupportedUptoRow, standIns := [], harness := (true, "550db86ae89acec0d42e890c3cf2666f953edc4201adba68e59c77d34d39f6e6"), looks := false }, kinds := [], alts := [], laidByText := true, laidKinds := [.data, .data, .data, .data, .pinned], laidTests := true, laidLooks := .later }
def SearchSupportedUptoCardSaid : Prop := Claim7.holds Tryz.pinned (.plain (OpenSpec.upto searchSupportedSpec)) searchSupportedUptoCard

/-- THE SECOND FORM's CARD OF 'archivumlaw56.SearchPieces'. -/
def searchPiecesUptoCard : Claim7 := { stood := { row := searchPiecesUptoRow, standIns := [], harness := (true, "550db86ae89acec0d42e890c3cf2666f953edc4201adba68e59c77d34d39f6e6"), looks := false }, kinds := [], alts := [], laidByText := true, laidKinds := [.data, .data, .data, .data, .pinned], laidTests := true, laidLooks := .later }
def SearchPiecesUptoCardSaid : Prop := Claim7.holds Tryz.pinned (.plain (OpenSpec.upto searchPiecesSpec)) searchPiecesUptoCard

/-- THE SECOND FORM's CARD OF 'archivumlaw56.SearchUpdated'. -/
def searchUpdatedUptoCard : Claim7 := { stood := { row := searchUpdatedUptoRow, standIns := [], harness := (true, "550db86ae89acec0d42e890c3cf2666f953edc4201adba68e59c77d34d39f6e6"), looks := false }, kinds := [], alts := [], laidByText := true, laidKinds := [.data, .data, .data, .data, .pinned], laidTests := true, laidLooks := .later }
def SearchUpdatedUptoCardSaid : Prop := Claim7.holds Tryz.pinned (.plain (OpenSpec.upto searchUpdatedSpec)) searchUpdatedUptoCard
end Rows
end Go.Proofs.YtngodakkdhdmjaaGreatDoor
