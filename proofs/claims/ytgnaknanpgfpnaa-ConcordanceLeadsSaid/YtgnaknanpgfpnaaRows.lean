/-
  No cell of these rows narrows 'for every input' (looked for: loops, veiled, ifaces, maps, wideKeys, modest, calm, conditions, laid).
  DERIVED. THE GIVEN ROWS OF THIS SEAT. 7 by the template 'for every input the law returns true; each argument reads behind the call as it read before'; 0 by the template 'total and deterministic' (their statements: YtgnaknanpgfpnaaTotals.lean).
  GIVEN WITH THE SEED: the statements are not yours to turn. If you find one false, say at which input.
  Laid BY PROGRAM, IN A SANDBOX (cutbox-rows.mjs): the forced cells as the released guide's own fill.sh prints them over the translation 9b29a8beb223cbbb… (all of the seat's roots in one cut). By AI agents, Wed Nov 11 2026. No macro, syntax, notation, axiom, sorry.
-/
import Derived.Test.YtgnaknanpgfpnaaChecked
import GoSem.Claim
import GoSem.ClaimJoined
import GoSem.ClaimMapViews
import Derived.JoinedTies
import Derived.KernelRfl
namespace Go.Proofs.Ytgnaknanpgfpnaa
/- THE CELL 'sum', in the pinned program and in every row, IS THE sha256 OF THE DUMP (.gsa) THAT YtgnaknanpgfpnaaProg.lean LOADS. Nothing in Lean hashes anything: it is a label: what it is worth is what the hold of that sum in a sandbox is worth. -/
noncomputable def Try.pinned : Pinned := { name := "ytgnaknanpgfpnaa", sum := "9b29a8beb223cbbbbd21477d55a8b07b8d698ecc98437f180f7d1b19f42d7c86", checked := Try.checked }
namespace Rows
def none {H : Type} : Left H := { results := [], args := [] }

/-- 'archivumlaw49.ConcordanceChecks': WHATEVER THE INPUT: true; the input reads as it did. -/
def concordanceChecksSpec : ChangeSpec := { name := "concordanceChecks", fn := fun _ => fun
  | [d1, d2] => { results := [.lit (.bool true)], args := [d1, d2] }
  | _ => none }
def concordanceChecksRow : OpenClaim := { program := "ytgnaknanpgfpnaa", sum := "9b29a8beb223cbbbbd21477d55a8b07b8d698ecc98437f180f7d1b19f42d7c86", func := "archivum/archivumlaw49.ConcordanceChecks", spec := "concordanceChecks", unfollowed := true, recurses := true, apart := false }
def ConcordanceChecksSaid : Prop := concordanceChecksRow.holds Try.pinned (OpenSpec.ofChange concordanceChecksSpec)

/-- ITS FALSE NEIGHBOUR: 'it returns false'. Refute it at one input. -/
def concordanceChecksWrong : ChangeSpec := { name := "concordanceChecks", fn := fun _ => fun
  | [d1, d2] => { results := [.lit (.bool false)], args := [d1, d2] }
  | _ => none }
def ConcordanceChecksWrongFalsely : Prop := concordanceChecksRow.holds Try.pinned (OpenSpec.ofChange concordanceChecksWrong)

/-- 'archivumlaw49.ConcordanceCollects': WHATEVER THE INPUT: true; the input reads as it did. -/
def concordanceCollectsSpec : ChangeSpec := { name := "concordanceCollects", fn := fun _ => fun
  | [d] => { results := [.lit (.bool true)], args := [d] }
  | _ => none }
def concordanceCollectsRow : OpenClaim := { program := "ytgnaknanpgfpnaa", sum := "9b29a8beb223cbbbbd21477d55a8b07b8d698ecc98437f180f7d1b19f42d7c86", func := "archivum/archivumlaw49.ConcordanceCollects", spec := "concordanceCollects", unfollowed := true, recurses := true, apart := false }
def ConcordanceCollectsSaid : Prop := concordanceCollectsRow.holds Try.pinned (OpenSpec.ofChange concordanceCollectsSpec)

/-- ITS FALSE NEIGHBOUR: 'it returns false'. Refute it at one input. -/
def concordanceCollectsWrong : ChangeSpec := { name := "concordanceCollects", fn := fun _ => fun
  | [d] => { results := [.lit (.bool false)], args := [d] }
  | _ => none }
def ConcordanceCollectsWrongFalsely : Prop := concordanceCollectsRow.holds Try.pinned (OpenSpec.ofChange concordanceCollectsWrong)

/-- 'archivumlaw49.ConcordanceAnswers': WHATEVER THE INPUT: true; the input reads as it did. -/
def concordanceAnswersSpec : ChangeSpec := { name := "concordanceAnswers", fn := fun _ => fun
  | [d1, d2] => { results := [.lit (.bool true)], args := [d1, d2] }
  | _ => none }
def concordanceAnswersRow : OpenClaim := { program := "ytgnaknanpgfpnaa", sum := "9b29a8beb223cbbbbd21477d55a8b07b8d698ecc98437f180f7d1b19f42d7c86", func := "archivum/archivumlaw49.ConcordanceAnswers", spec := "concordanceAnswers", unfollowed := true, recurses := true, apart := false }
def ConcordanceAnswersSaid : Prop := concordanceAnswersRow.holds Try.pinned (OpenSpec.ofChange concordanceAnswersSpec)

/-- ITS FALSE NEIGHBOUR: 'it returns false'. Refute it at one input. -/
def concordanceAnswersWrong : ChangeSpec := { name := "concordanceAnswers", fn := fun _ => fun
  | [d1, d2] => { results := [.lit (.bool false)], args := [d1, d2] }
  | _ => none }
def ConcordanceAnswersWrongFalsely : Prop := concordanceAnswersRow.holds Try.pinned (OpenSpec.ofChange concordanceAnswersWrong)

/-- 'archivumlaw49.ConcordanceOne': WHATEVER THE INPUT: true; the input reads as it did. -/
def concordanceOneSpec : ChangeSpec := { name := "concordanceOne", fn := fun _ => fun
  | [d] => { results := [.lit (.bool true)], args := [d] }
  | _ => none }
def concordanceOneRow : OpenClaim := { program := "ytgnaknanpgfpnaa", sum := "9b29a8beb223cbbbbd21477d55a8b07b8d698ecc98437f180f7d1b19f42d7c86", func := "archivum/archivumlaw49.ConcordanceOne", spec := "concordanceOne", unfollowed := true, recurses := true, apart := false }
def ConcordanceOneSaid : Prop := concordanceOneRow.holds Try.pinned (OpenSpec.ofChange concordanceOneSpec)

/-- ITS FALSE NEIGHBOUR: 'it returns false'. Refute it at one input. -/
def concordanceOneWrong : ChangeSpec := { name := "concordanceOne", fn := fun _ => fun
  | [d] => { results := [.lit (.bool false)], args := [d] }
  | _ => none }
def ConcordanceOneWrongFalsely : Prop := concordanceOneRow.holds Try.pinned (OpenSpec.ofChange concordanceOneWrong)

/-- 'archivumlaw49.ConcordanceLeads': WHATEVER THE INPUT: true; the input reads as it did. -/
def concordanceLeadsSpec : ChangeSpec := { name := "concordanceLeads", fn := fun _ => fun
  | [d] => { results := [.lit (.bool true)], args := [d] }
  | _ => none }
def concordanceLeadsRow : OpenClaim := { program := "ytgnaknanpgfpnaa", sum := "9b29a8beb223cbbbbd21477d55a8b07b8d698ecc98437f180f7d1b19f42d7c86", func := "archivum/archivumlaw49.ConcordanceLeads", spec := "concordanceLeads", unfollowed := true, recurses := true, apart := false }
def ConcordanceLeadsSaid : Prop := concordanceLeadsRow.holds Try.pinned (OpenSpec.ofChange concordanceLeadsSpec)

/-- ITS FALSE NEIGHBOUR: 'it returns false'. Refute it at one input. -/
def concordanceLeadsWrong : ChangeSpec := { name := "concordanceLeads", fn := fun _ => fun
  | [d] => { results := [.lit (.bool false)], args := [d] }
  | _ => none }
def ConcordanceLeadsWrongFalsely : Prop := concordanceLeadsRow.holds Try.pinned (OpenSpec.ofChange concordanceLeadsWrong)

/-- 'archivumlaw49.ConcordanceDays': WHATEVER THE INPUT: true; the input reads as it did. -/
def concordanceDaysSpec : ChangeSpec := { name := "concordanceDays", fn := fun _ => fun
  | [d1, d2] => { results := [.lit (.bool true)], args := [d1, d2] }
  | _ => none }
def concordanceDaysRow : OpenClaim := { program := "ytgnaknanpgfpnaa", sum := "9b29a8beb223cbbbbd21477d55a8b07b8d698ecc98437f180f7d1b19f42d7c86", func := "archivum/archivumlaw49.ConcordanceDays", spec := "concordanceDays", unfollowed := true, recurses := true, apart := false }
def ConcordanceDaysSaid : Prop := concordanceDaysRow.holds Try.pinned (OpenSpec.ofChange concordanceDaysSpec)

/-- ITS FALSE NEIGHBOUR: 'it returns false'. Refute it at one input. -/
def concordanceDaysWrong : ChangeSpec := { name := "concordanceDays", fn := fun _ => fun
  | [d1, d2] => { results := [.lit (.bool false)], args := [d1, d2] }
  | _ => none }
def ConcordanceDaysWrongFalsely : Prop := concordanceDaysRow.holds Try.pinned (OpenSpec.ofChange concordanceDaysWrong)

/-- 'archivumlaw49.ConcordanceGrows': WHATEVER THE INPUT: true; the input reads as it did. -/
def concordanceGrowsSpec : ChangeSpec := { name := "concordanceGrows", fn := fun _ => fun
  | [d1, d2] => { results := [.lit (.bool true)], args := [d1, d2] }
  | _ => none }
def concordanceGrowsRow : OpenClaim := { program := "ytgnaknanpgfpnaa", sum := "9b29a8beb223cbbbbd21477d55a8b07b8d698ecc98437f180f7d1b19f42d7c86", func := "archivum/archivumlaw49.ConcordanceGrows", spec := "concordanceGrows", unfollowed := true, recurses := true, apart := false }
def ConcordanceGrowsSaid : Prop := concordanceGrowsRow.holds Try.pinned (OpenSpec.ofChange concordanceGrowsSpec)

/-- ITS FALSE NEIGHBOUR: 'it returns false'. Refute it at one input. -/
def concordanceGrowsWrong : ChangeSpec := { name := "concordanceGrows", fn := fun _ => fun
  | [d1, d2] => { results := [.lit (.bool false)], args := [d1, d2] }
  | _ => none }
def ConcordanceGrowsWrongFalsely : Prop := concordanceGrowsRow.holds Try.pinned (OpenSpec.ofChange concordanceGrowsWrong)

/- THE SECOND FORM. 'bulk': how many values and letters a reading holds, each counted each time it is reached (what is shared counts as often as it is met; a slice's spare places count too). A statement '..UptoSaid' is the law's where the arguments, and the package variables that the reading takes, are together of bulk at most 1048576: NARROWER than '..Said'. Prove '..Said' where nothing that the law and all that it calls make is longer than what came in: it says more and counts as full. Else prove '..UptoSaid'. A law counts once. -/
mutual
def uptoBulk {H : Type} : DataW H → Nat
  | .lit (.string bytes) => bytes.length + 1
  | .lit _ => 1
  | .nil => 1
  | .ptr d => uptoBulk d + 1
  | .slice elems spare => uptoBulkAll elems + uptoBulkAll spare + 1
  | .agg parts => uptoBulkAll parts + 1
  | .iface _ d => uptoBulk d + 1
  | .map entries => uptoBulkEntries entries + 1
  | .held _ => 1
def uptoBulkAll {H : Type} : List (DataW H) → Nat
  | [] => 0
  | d :: r => uptoBulk d + uptoBulkAll r
def uptoBulkEntries {H : Type} : List (Lit × DataW H) → Nat
  | [] => 0
  | x :: r => uptoBulkEntry x + uptoBulkEntries r
def uptoBulkEntry {H : Type} : Lit × DataW H → Nat
  | (.string bytes, d) => bytes.length + uptoBulk d + 1
  | (_, d) => uptoBulk d + 1
 end
def uptoSmall : (H : Type) → List (DataW H) → Bool := fun _ ds => decide (uptoBulkAll ds ≤ 1048576)
def OpenSpec.upto (s : _root_.Go.ChangeSpec) : _root_.Go.OpenSpec := { _root_.Go.OpenSpec.ofChange s with cond := some uptoSmall }

/-- 'archivumlaw49.ConcordanceChecks', WHERE WHAT IT READS IS OF BULK AT MOST 1048576: true; the input reads as it did. -/
def concordanceChecksUptoRow : OpenClaim := { program := "ytgnaknanpgfpnaa", sum := "9b29a8beb223cbbbbd21477d55a8b07b8d698ecc98437f180f7d1b19f42d7c86", func := "archivum/archivumlaw49.ConcordanceChecks", spec := "concordanceChecks", unfollowed := true, recurses := true, apart := false, narrowed := true }
def ConcordanceChecksUptoSaid : Prop := concordanceChecksUptoRow.holds Try.pinned (OpenSpec.upto concordanceChecksSpec)

/-- 'archivumlaw49.ConcordanceCollects', WHERE WHAT IT READS IS OF BULK AT MOST 1048576: true; the input reads as it did. -/
def concordanceCollectsUptoRow : OpenClaim := { program := "ytgnaknanpgfpnaa", sum := "9b29a8beb223cbbbbd21477d55a8b07b8d698ecc98437f180f7d1b19f42d7c86", func := "archivum/archivumlaw49.ConcordanceCollects", spec := "concordanceCollects", unfollowed := true, recurses := true, apart := false, narrowed := true }
def ConcordanceCollectsUptoSaid : Prop := concordanceCollectsUptoRow.holds Try.pinned (OpenSpec.upto concordanceCollectsSpec)

/-- 'archivumlaw49.ConcordanceAnswers', WHERE WHAT IT READS IS OF BULK AT MOST 1048576: true; the input reads as it did. -/
def concordanceAnswersUptoRow : OpenClaim := { program := "ytgnaknanpgfpnaa", sum := "9b29a8beb223cbbbbd21477d55a8b07b8d698ecc98437f180f7d1b19f42d7c86", func := "archivum/archivumlaw49.ConcordanceAnswers", spec := "concordanceAnswers", unfollowed := true, recurses := true, apart := false, narrowed := true }
def ConcordanceAnswersUptoSaid : Prop := concordanceAnswersUptoRow.holds Try.pinned (OpenSpec.upto concordanceAnswersSpec)

/-- 'archivumlaw49.ConcordanceOne', WHERE WHAT IT READS IS OF BULK AT MOST 1048576: true; the input reads as it did. -/
def concordanceOneUptoRow : OpenClaim := { program := "ytgnaknanpgfpnaa", sum := "9b29a8beb223cbbbbd21477d55a8b07b8d698ecc98437f180f7d1b19f42d7c86", func := "archivum/archivumlaw49.ConcordanceOne", spec := "concordanceOne", unfollowed := true, recurses := true, apart := false, narrowed := true }
def ConcordanceOneUptoSaid : Prop := concordanceOneUptoRow.holds Try.pinned (OpenSpec.upto concordanceOneSpec)

/-- 'archivumlaw49.ConcordanceLeads', WHERE WHAT IT READS IS OF BULK AT MOST 1048576: true; the input reads as it did. -/
def concordanceLeadsUptoRow : OpenClaim := { program := "ytgnaknanpgfpnaa", sum := "9b29a8beb223cbbbbd21477d55a8b07b8d698ecc98437f180f7d1b19f42d7c86", func := "archivum/archivumlaw49.ConcordanceLeads", spec := "concordanceLeads", unfollowed := true, recurses := true, apart := false, narrowed := true }
def ConcordanceLeadsUptoSaid : Prop := concordanceLeadsUptoRow.holds Try.pinned (OpenSpec.upto concordanceLeadsSpec)

/-- 'archivumlaw49.ConcordanceDays', WHERE WHAT IT READS IS OF BULK AT MOST 1048576: true; the input reads as it did. -/
def concordanceDaysUptoRow : OpenClaim := { program := "ytgnaknanpgfpnaa", sum := "9b29a8beb223cbbbbd21477d55a8b07b8d698ecc98437f180f7d1b19f42d7c86", func := "archivum/archivumlaw49.ConcordanceDays", spec := "concordanceDays", unfollowed := true, recurses := true, apart := false, narrowed := true }
def ConcordanceDaysUptoSaid : Prop := concordanceDaysUptoRow.holds Try.pinned (OpenSpec.upto concordanceDaysSpec)

/-- 'archivumlaw49.ConcordanceGrows', WHERE WHAT IT READS IS OF BULK AT MOST 1048576: true; the input reads as it did. -/
def concordanceGrowsUptoRow : OpenClaim := { program := "ytgnaknanpgfpnaa", sum := "9b29a8beb223cbbbbd21477d55a8b07b8d698ecc98437f180f7d1b19f42d7c86", func := "archivum/archivumlaw49.ConcordanceGrows", spec := "concordanceGrows", unfollowed := true, recurses := true, apart := false, narrowed := true }
def ConcordanceGrowsUptoSaid : Prop := concordanceGrowsUptoRow.holds Try.pinned (OpenSpec.upto concordanceGrowsSpec)

end Rows
end Go.Proofs.Ytgnaknanpgfpnaa
