/-
  DERIVED. GIVEN WITH THE SEED: THE CARDS: each row of YtbmlnflacdockaaGreatDoorRows.lean that lists a variable, with what it lists TIED to the program's text (the seventh form; the later family's looks); each row that meets fmt, with fmt's text TOLD by the authors' own Lean function (tested against real Go, not proved from fmt's source: count such statements apart). THE CARD IS WHAT COUNTS. Prove the row's statement (the work); the ties are given (YtbmlnflacdockaaGreatDoorTie.lean); close each card by the builder's one call (the guide's Derived/Test/ToyasCard.lean, 'card_holds'). Laid BY PROGRAM, IN A SANDBOX (cutbox-door.mjs). By AI agents, Wed Nov 11 2026. No macro, syntax, notation, axiom, sorry.
-/
import Derived.Test.YtbmlnflacdockaaGreatDoorRows
import GoSem.ClaimSeven
namespace Go.Proofs.YtbmlnflacdockaaGreatDoor
namespace Rows

/-- THE TIED CARD OF 'archivumlaw47.AidCompiles'. -/
def aidCompilesCard : Claim7 := { stood := { row := aidCompilesRow, standIns := [], harness := (true, "7be06e02e5332c4043a026cf57307037a79659072d53e3b5093df1d0f6510653"), looks := true }, kinds := [], alts := [], laidByText := true, laidKinds := [.data, .data, .data, .sentinel, .sentinel], laidTests := true, laidLooks := .later }
def AidCompilesCardSaid : Prop := Claim7.holds Tryz.pinned (.plain (OpenSpec.ofChange aidCompilesSpec)) aidCompilesCard

/-- THE TIED CARD OF 'archivumlaw47.AidChecks'. -/
def aidChecksCard : Claim7 := { stood := { row := aidChecksRow, standIns := [], harness := (true, "7be06e02e5332c4043a026cf57307037a79659072d53e3b5093df1d0f6510653"), looks := true }, kinds := [], alts := [], laidByText := true, laidKinds := [.data, .data, .data, .sentinel, .sentinel], laidTests := true, laidLooks := .later }
def AidChecksCardSaid : Prop := Claim7.holds Tryz.pinned (.plain (OpenSpec.ofChange aidChecksSpec)) aidChecksCard

/-- THE TIED CARD OF 'archivumlaw47.AidAnswers'. -/
def aidAnswersCard : Claim7 := { stood := { row := aidAnswersRow, standIns := [], harness := (true, "7be06e02e5332c4043a026cf57307037a79659072d53e3b5093df1d0f6510653"), looks := true }, kinds := [], alts := [], laidByText := true, laidKinds := [.data, .data, .data, .sentinel, .sentinel], laidTests := true, laidLooks := .later }
def AidAnswersCardSaid : Prop := Claim7.holds Tryz.pinned (.plain (OpenSpec.ofChange aidAnswersSpec)) aidAnswersCard

/-- THE SECOND FORM's CARD OF 'archivumlaw47.AidCompiles'. -/
def aidCompilesUptoCard : Claim7 := { stood := { row := aidCompilesUptoRow, standIns := [], harness := (true, "7be06e02e5332c4043a026cf57307037a79659072d53e3b5093df1d0f6510653"), looks := true }, kinds := [], alts := [], laidByText := true, laidKinds := [.data, .data, .data, .sentinel, .sentinel], laidTests := true, laidLooks := .later }
def AidCompilesUptoCardSaid : Prop := Claim7.holds Tryz.pinned (.plain (OpenSpec.upto aidCompilesSpec)) aidCompilesUptoCard

/-- THE SECOND FORM's CARD OF 'archivumlaw47.AidChecks'. -/
def aidChecksUptoCard : Claim7 := { stood := { row := aidChecksUptoRow, standIns := [], harness := (true, "7be06e02e5332c4043a026cf57307037a79659072d53e3b5093df1d0f6510653"), looks := true }, kinds := [], alts := [], laidByText := true, laidKinds := [.data, .data, .data, .sentinel, .sentinel], laidTests := true, laidLooks := .later }
def AidChecksUptoCardSaid : Prop := Claim7.holds Tryz.pinned (.plain (OpenSpec.upto aidChecksSpec)) aidChecksUptoCard

/-- THE SECOND FORM's CARD OF 'archivumlaw47.AidAnswers'. -/
def aidAnswersUptoCard : Claim7 := { stood := { row := aidAnswersUptoRow, standIns := [], harness := (true, "7be06e02e5332c4043a026cf57307037a79659072d53e3b5093df1d0f6510653"), looks := true }, kinds := [], alts := [], laidByText := true, laidKinds := [.data, .data, .data, .sentinel, .sentinel], laidTests := true, laidLooks := .later }
def AidAnswersUptoCardSaid : Prop := Claim7.holds Tryz.pinned (.plain (OpenSpec.upto aidAnswersSpec)) aidAnswersUptoCard
end Rows
end Go.Proofs.YtbmlnflacdockaaGreatDoor
