/-
  DERIVED. GIVEN WITH THE SEED: THE CARDS: each row of YthbccfchjgihgaaGreatDoorRows.lean that lists a variable, with what it lists TIED to the program's text (the seventh form; the later family's looks); each row that meets fmt, with fmt's text TOLD by the authors' own Lean function (tested against real Go, not proved from fmt's source: count such statements apart). THE CARD IS WHAT COUNTS. Prove the row's statement (the work); the ties are given (YthbccfchjgihgaaGreatDoorTie.lean); close each card by the builder's one call (the guide's Derived/Test/ToyasCard.lean, 'card_holds'). Laid BY PROGRAM, IN A SANDBOX (cutbox-door.mjs). By AI agents, Wed Nov 11 2026. No macro, syntax, notation, axiom, sorry.
-/
import Derived.Test.YthbccfchjgihgaaGreatDoorRows
import GoSem.ClaimSeven
namespace Go.Proofs.YthbccfchjgihgaaGreatDoor
namespace Rows

/-- THE TIED CARD OF 'archivumlaw19.TreeChecks'. -/
def treeChecksCard : Claim7 := { stood := { row := treeChecksRow, standIns := [], harness := (true, "2c5d65abd6123c14fe3d63b9161a0e63b9054163abe0cea32caec5ee5b3bdd19"), looks := false }, kinds := [], alts := [], laidByText := true, laidKinds := [.data, .data, .data], laidTests := true, laidLooks := .later }
def TreeChecksCardSaid : Prop := Claim7.holds Tryz.pinned (.plain (OpenSpec.ofChange treeChecksSpec)) treeChecksCard

/-- THE TIED CARD OF 'archivumlaw19.TreeFinds'. -/
def treeFindsCard : Claim7 := { stood := { row := treeFindsRow, standIns := [], harness := (true, "2c5d65abd6123c14fe3d63b9161a0e63b9054163abe0cea32caec5ee5b3bdd19"), looks := false }, kinds := [], alts := [], laidByText := true, laidKinds := [.data, .data, .data], laidTests := true, laidLooks := .later }
def TreeFindsCardSaid : Prop := Claim7.holds Tryz.pinned (.plain (OpenSpec.ofChange treeFindsSpec)) treeFindsCard

/-- THE TIED CARD OF 'archivumlaw19.TreeWalks'. -/
def treeWalksCard : Claim7 := { stood := { row := treeWalksRow, standIns := [], harness := (true, "2c5d65abd6123c14fe3d63b9161a0e63b9054163abe0cea32caec5ee5b3bdd19"), looks := false }, kinds := [], alts := [], laidByText := true, laidKinds := [.data, .data, .data], laidTests := true, laidLooks := .later }
def TreeWalksCardSaid : Prop := Claim7.holds Tryz.pinned (.plain (OpenSpec.ofChange treeWalksSpec)) treeWalksCard

/-- THE TIED CARD OF 'archivumlaw19.TreeShows'. -/
def treeShowsCard : Claim7 := { stood := { row := treeShowsRow, standIns := [], harness := (true, "2c5d65abd6123c14fe3d63b9161a0e63b9054163abe0cea32caec5ee5b3bdd19"), looks := false }, kinds := [], alts := [], laidByText := true, laidKinds := [.data, .data, .data], laidTests := true, laidLooks := .later }
def TreeShowsCardSaid : Prop := Claim7.holds Tryz.pinned (.plain (OpenSpec.ofChange treeShowsSpec)) treeShowsCard

/-- THE TIED CARD OF 'archivumlaw19.TreePaths'. -/
def treePathsCard : Claim7 := { stood := { row := treePathsRow, standIns := [], harness := (true, "2c5d65abd6123c14fe3d63b9161a0e63b9054163abe0cea32caec5ee5b3bdd19"), looks := false }, kinds := [], alts := [], laidByText := true, laidKinds := [.data, .data, .data], laidTests := true, laidLooks := .later }
def TreePathsCardSaid : Prop := Claim7.holds Tryz.pinned (.plain (OpenSpec.ofChange treePathsSpec)) treePathsCard

/-- THE TIED CARD OF 'archivumlaw19.TreeOnce'. -/
def treeOnceCard : Claim7 := { stood := { row := treeOnceRow, standIns := [], harness := (true, "2c5d65abd6123c14fe3d63b9161a0e63b9054163abe0cea32caec5ee5b3bdd19"), looks := false }, kinds := [], alts := [], laidByText := true, laidKinds := [.data, .data, .data], laidTests := true, laidLooks := .later }
def TreeOnceCardSaid : Prop := Claim7.holds Tryz.pinned (.plain (OpenSpec.ofChange treeOnceSpec)) treeOnceCard

/-- THE TIED CARD OF 'archivumlaw19.TreeMeets'. -/
def treeMeetsCard : Claim7 := { stood := { row := treeMeetsRow, standIns := [], harness := (true, "2c5d65abd6123c14fe3d63b9161a0e63b9054163abe0cea32caec5ee5b3bdd19"), looks := false }, kinds := [], alts := [], laidByText := true, laidKinds := [.data, .data, .data], laidTests := true, laidLooks := .later }
def TreeMeetsCardSaid : Prop := Claim7.holds Tryz.pinned (.plain (OpenSpec.ofChange treeMeetsSpec)) treeMeetsCard

/-- THE TIED CARD OF 'archivumlaw19.TreeLines'. -/
def treeLinesCard : Claim7 := { stood := { row := treeLinesRow, standIns := [], harness := (true, "2c5d65abd6123c14fe3d63b9161a0e63b9054163abe0cea32caec5ee5b3bdd19"), looks := false }, kinds := [], alts := [], laidByText := true, laidKinds := [.data, .data, .data, .data, .pinned], laidTests := true, laidLooks := .later }
def TreeLinesCardSaid : Prop := Claim7.holds Tryz.pinned (.plain (OpenSpec.ofChange treeLinesSpec)) treeLinesCard

/-- THE SECOND FORM's CARD OF 'archivumlaw19.TreeChecks'. -/
def treeChecksUptoCard : Claim7 := { stood := { row := treeChecksUptoRow, standIns := [], harness := (true, "2c5d65abd6123c14fe3d63b9161a0e63b9054163abe0cea32caec5ee5b3bdd19"), looks := false }, kinds := [], alts := [], laidByText := true, laidKinds := [.data, .data, .data], laidTests := true, laidLooks := .later }
def TreeChecksUptoCardSaid : Prop := Claim7.holds Tryz.pinned (.plain (OpenSpec.upto treeChecksSpec)) treeChecksUptoCard

/-- THE SECOND FORM's CARD OF 'archivumlaw19.TreeFinds'. -/
def treeFindsUptoCard : Claim7 := { stood := { row := treeFindsUptoRow, standIns := [], harness := (true, "2c5d65abd6123c14fe3d63b9161a0e63b9054163abe0cea32caec5ee5b3bdd19"), looks := false }, kinds := [], alts := [], laidByText := true, laidKinds := [.data, .data, .data], laidTests := true, laidLooks := .later }
def TreeFindsUptoCardSaid : Prop := Claim7.holds Tryz.pinned (.plain (OpenSpec.upto treeFindsSpec)) treeFindsUptoCard

/-- THE SECOND FORM's CARD OF 'archivumlaw19.TreeWalks'. -/
def treeWalksUptoCard : Claim7 := { stood := { row := treeWalksUptoRow, standIns := [], harness := (true, "2c5d65abd6123c14fe3d63b9161a0e63b9054163abe0cea32caec5ee5b3bdd19"), looks := false }, kinds := [], alts := [], laidByText := true, laidKinds := [.data, .data, .data], laidTests := true, laidLooks := .later }
def TreeWalksUptoCardSaid : Prop := Claim7.holds Tryz.pinned (.plain (OpenSpec.upto treeWalksSpec)) treeWalksUptoCard

/-- THE SECOND FORM's CARD OF 'archivumlaw19.TreeShows'. -/
def treeShowsUptoCard : Claim7 := { stood := { row := treeShowsUptoRow, standIns := [], harness := (true, "2c5d65abd6123c14fe3d63b9161a0e63b9054163abe0cea32caec5ee5b3bdd19"), looks := false }, kinds := [], alts := [], laidByText := true, laidKinds := [.data, .data, .data], laidTests := true, laidLooks := .later }
def TreeShowsUptoCardSaid : Prop := Claim7.holds Tryz.pinned (.plain (OpenSpec.upto treeShowsSpec)) treeShowsUptoCard

/-- THE SECOND FORM's CARD OF 'archivumlaw19.TreePaths'. -/
def treePathsUptoCard : Claim7 := { stood := { row := treePathsUptoRow, standIns := [], harness := (true, "2c5d65abd6123c14fe3d63b9161a0e63b9054163abe0cea32caec5ee5b3bdd19"), looks := false }, kinds := [], alts := [], laidByText := true, laidKinds := [.data, .data, .data], laidTests := true, laidLooks := .later }
def TreePathsUptoCardSaid : Prop := Claim7.holds Tryz.pinned (.plain (OpenSpec.upto treePathsSpec)) treePathsUptoCard

/-- THE SECOND FORM's CARD OF 'archivumlaw19.TreeOnce'. -/
def treeOnceUptoCard : Claim7 := { stood := { row := treeOnceUptoRow, standIns := [], harness := (true, "2c5d65abd6123c14fe3d63b9161a0e63b9054163abe0cea32caec5ee5b3bdd19"), looks := false }, kinds := [], alts := [], laidByText := true, laidKinds := [.data, .data, .data], laidTests := true, laidLooks := .later }
def TreeOnceUptoCardSaid : Prop := Claim7.holds Tryz.pinned (.plain (OpenSpec.upto treeOnceSpec)) treeOnceUptoCard

/-- THE SECOND FORM's CARD OF 'archivumlaw19.TreeMeets'. -/
def treeMeetsUptoCard : Claim7 := { stood := { row := treeMeetsUptoRow, standIns := [], harness := (true, "2c5d65abd6123c14fe3d63b9161a0e63b9054163abe0cea32caec5ee5b3bdd19"), looks := false }, kinds := [], alts := [], laidByText := true, laidKinds := [.data, .data, .data], laidTests := true, laidLooks := .later }
def TreeMeetsUptoCardSaid : Prop := Claim7.holds Tryz.pinned (.plain (OpenSpec.upto treeMeetsSpec)) treeMeetsUptoCard

/-- THE SECOND FORM's CARD OF 'archivumlaw19.TreeLines'. -/
def treeLinesUptoCard : Claim7 := { stood := { row := treeLinesUptoRow, standIns := [], harness := (true, "2c5d65abd6123c14fe3d63b9161a0e63b9054163abe0cea32caec5ee5b3bdd19"), looks := false }, kinds := [], alts := [], laidByText := true, laidKinds := [.data, .data, .data, .data, .pinned], laidTests := true, laidLooks := .later }
def TreeLinesUptoCardSaid : Prop := Claim7.holds Tryz.pinned (.plain (OpenSpec.upto treeLinesSpec)) treeLinesUptoCard
end Rows
end Go.Proofs.YthbccfchjgihgaaGreatDoor
