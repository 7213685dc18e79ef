/-
  No cell of these rows narrows 'for every input' (looked for: loops, veiled, ifaces, maps, wideKeys, modest, calm, conditions, laid).
  DERIVED. THE GIVEN ROWS OF THIS SEAT. 7 by the template 'for every input the law returns true; each argument reads behind the call as it read before'; 0 by the template 'total and deterministic' (their statements: YthabpkigflldmaaTotals.lean).
  GIVEN WITH THE SEED: the statements are not yours to turn. If you find one false, say at which input.
  Laid BY PROGRAM, IN A SANDBOX (cutbox-rows.mjs): the forced cells as the released guide's own fill.sh prints them over the translation 551ba724267830ef… (all of the seat's roots in one cut). By AI agents, Wed Nov 11 2026. No macro, syntax, notation, axiom, sorry.
-/
import Derived.Test.YthabpkigflldmaaChecked
import GoSem.Claim
import GoSem.ClaimJoined
import GoSem.ClaimMapViews
import Derived.JoinedTies
import Derived.KernelRfl
namespace Go.Proofs.Ythabpkigflldmaa
/- THE CELL 'sum', in the pinned program and in every row, IS THE sha256 OF THE DUMP (.gsa) THAT YthabpkigflldmaaProg.lean LOADS. Nothing in Lean hashes anything: it is a label: what it is worth is what the hold of that sum in a sandbox is worth. -/
noncomputable def Try.pinned : Pinned := { name := "ythabpkigflldmaa", sum := "551ba724267830ef9ce3db24ffdd81a569205a0d58972ef8e2c660cff9cedd80", checked := Try.checked }
namespace Rows
def none {H : Type} : Left H := { results := [], args := [] }

/-- 'archivumlaw41.RelocatePlans': WHATEVER THE INPUT: true; the input reads as it did. -/
def relocatePlansSpec : ChangeSpec := { name := "relocatePlans", fn := fun _ => fun
  | [d1, d2, d3] => { results := [.lit (.bool true)], args := [d1, d2, d3] }
  | _ => none }
def relocatePlansRow : OpenClaim := { program := "ythabpkigflldmaa", sum := "551ba724267830ef9ce3db24ffdd81a569205a0d58972ef8e2c660cff9cedd80", func := "archivum/archivumlaw41.RelocatePlans", spec := "relocatePlans", unfollowed := true, recurses := true, apart := false }
def RelocatePlansSaid : Prop := relocatePlansRow.holds Try.pinned (OpenSpec.ofChange relocatePlansSpec)

/-- ITS FALSE NEIGHBOUR: 'it returns false'. Refute it at one input. -/
def relocatePlansWrong : ChangeSpec := { name := "relocatePlans", fn := fun _ => fun
  | [d1, d2, d3] => { results := [.lit (.bool false)], args := [d1, d2, d3] }
  | _ => none }
def RelocatePlansWrongFalsely : Prop := relocatePlansRow.holds Try.pinned (OpenSpec.ofChange relocatePlansWrong)

/-- 'archivumlaw41.RelocateCloses': WHATEVER THE INPUT: true; the input reads as it did. -/
def relocateClosesSpec : ChangeSpec := { name := "relocateCloses", fn := fun _ => fun
  | [d1, d2, d3] => { results := [.lit (.bool true)], args := [d1, d2, d3] }
  | _ => none }
def relocateClosesRow : OpenClaim := { program := "ythabpkigflldmaa", sum := "551ba724267830ef9ce3db24ffdd81a569205a0d58972ef8e2c660cff9cedd80", func := "archivum/archivumlaw41.RelocateCloses", spec := "relocateCloses", unfollowed := true, recurses := true, apart := false }
def RelocateClosesSaid : Prop := relocateClosesRow.holds Try.pinned (OpenSpec.ofChange relocateClosesSpec)

/-- ITS FALSE NEIGHBOUR: 'it returns false'. Refute it at one input. -/
def relocateClosesWrong : ChangeSpec := { name := "relocateCloses", fn := fun _ => fun
  | [d1, d2, d3] => { results := [.lit (.bool false)], args := [d1, d2, d3] }
  | _ => none }
def RelocateClosesWrongFalsely : Prop := relocateClosesRow.holds Try.pinned (OpenSpec.ofChange relocateClosesWrong)

/-- 'archivumlaw41.RelocateEither': WHATEVER THE INPUT: true; the input reads as it did. -/
def relocateEitherSpec : ChangeSpec := { name := "relocateEither", fn := fun _ => fun
  | [d1, d2, d3] => { results := [.lit (.bool true)], args := [d1, d2, d3] }
  | _ => none }
def relocateEitherRow : OpenClaim := { program := "ythabpkigflldmaa", sum := "551ba724267830ef9ce3db24ffdd81a569205a0d58972ef8e2c660cff9cedd80", func := "archivum/archivumlaw41.RelocateEither", spec := "relocateEither", unfollowed := true, recurses := true, apart := false }
def RelocateEitherSaid : Prop := relocateEitherRow.holds Try.pinned (OpenSpec.ofChange relocateEitherSpec)

/-- ITS FALSE NEIGHBOUR: 'it returns false'. Refute it at one input. -/
def relocateEitherWrong : ChangeSpec := { name := "relocateEither", fn := fun _ => fun
  | [d1, d2, d3] => { results := [.lit (.bool false)], args := [d1, d2, d3] }
  | _ => none }
def RelocateEitherWrongFalsely : Prop := relocateEitherRow.holds Try.pinned (OpenSpec.ofChange relocateEitherWrong)

/-- 'archivumlaw41.RelocateSteps': WHATEVER THE INPUT: true; the input reads as it did. -/
def relocateStepsSpec : ChangeSpec := { name := "relocateSteps", fn := fun _ => fun
  | [d1, d2] => { results := [.lit (.bool true)], args := [d1, d2] }
  | _ => none }
def relocateStepsRow : OpenClaim := { program := "ythabpkigflldmaa", sum := "551ba724267830ef9ce3db24ffdd81a569205a0d58972ef8e2c660cff9cedd80", func := "archivum/archivumlaw41.RelocateSteps", spec := "relocateSteps", unfollowed := true, recurses := true, apart := false }
def RelocateStepsSaid : Prop := relocateStepsRow.holds Try.pinned (OpenSpec.ofChange relocateStepsSpec)

/-- ITS FALSE NEIGHBOUR: 'it returns false'. Refute it at one input. -/
def relocateStepsWrong : ChangeSpec := { name := "relocateSteps", fn := fun _ => fun
  | [d1, d2] => { results := [.lit (.bool false)], args := [d1, d2] }
  | _ => none }
def RelocateStepsWrongFalsely : Prop := relocateStepsRow.holds Try.pinned (OpenSpec.ofChange relocateStepsWrong)

/-- 'archivumlaw41.RelocateApplies': WHATEVER THE INPUT: true; the input reads as it did. -/
def relocateAppliesSpec : ChangeSpec := { name := "relocateApplies", fn := fun _ => fun
  | [d1, d2, d3] => { results := [.lit (.bool true)], args := [d1, d2, d3] }
  | _ => none }
def relocateAppliesRow : OpenClaim := { program := "ythabpkigflldmaa", sum := "551ba724267830ef9ce3db24ffdd81a569205a0d58972ef8e2c660cff9cedd80", func := "archivum/archivumlaw41.RelocateApplies", spec := "relocateApplies", unfollowed := true, recurses := true, apart := false }
def RelocateAppliesSaid : Prop := relocateAppliesRow.holds Try.pinned (OpenSpec.ofChange relocateAppliesSpec)

/-- ITS FALSE NEIGHBOUR: 'it returns false'. Refute it at one input. -/
def relocateAppliesWrong : ChangeSpec := { name := "relocateApplies", fn := fun _ => fun
  | [d1, d2, d3] => { results := [.lit (.bool false)], args := [d1, d2, d3] }
  | _ => none }
def RelocateAppliesWrongFalsely : Prop := relocateAppliesRow.holds Try.pinned (OpenSpec.ofChange relocateAppliesWrong)

/-- 'archivumlaw41.RelocateSafe': WHATEVER THE INPUT: true; the input reads as it did. -/
def relocateSafeSpec : ChangeSpec := { name := "relocateSafe", fn := fun _ => fun
  | [d1, d2, d3] => { results := [.lit (.bool true)], args := [d1, d2, d3] }
  | _ => none }
def relocateSafeRow : OpenClaim := { program := "ythabpkigflldmaa", sum := "551ba724267830ef9ce3db24ffdd81a569205a0d58972ef8e2c660cff9cedd80", func := "archivum/archivumlaw41.RelocateSafe", spec := "relocateSafe", unfollowed := true, recurses := true, apart := false }
def RelocateSafeSaid : Prop := relocateSafeRow.holds Try.pinned (OpenSpec.ofChange relocateSafeSpec)

/-- ITS FALSE NEIGHBOUR: 'it returns false'. Refute it at one input. -/
def relocateSafeWrong : ChangeSpec := { name := "relocateSafe", fn := fun _ => fun
  | [d1, d2, d3] => { results := [.lit (.bool false)], args := [d1, d2, d3] }
  | _ => none }
def RelocateSafeWrongFalsely : Prop := relocateSafeRow.holds Try.pinned (OpenSpec.ofChange relocateSafeWrong)

/-- 'archivumlaw41.RelocateShortest': WHATEVER THE INPUT: true; the input reads as it did. -/
def relocateShortestSpec : ChangeSpec := { name := "relocateShortest", fn := fun _ => fun
  | [d1, d2, d3] => { results := [.lit (.bool true)], args := [d1, d2, d3] }
  | _ => none }
def relocateShortestRow : OpenClaim := { program := "ythabpkigflldmaa", sum := "551ba724267830ef9ce3db24ffdd81a569205a0d58972ef8e2c660cff9cedd80", func := "archivum/archivumlaw41.RelocateShortest", spec := "relocateShortest", unfollowed := true, recurses := true, apart := false }
def RelocateShortestSaid : Prop := relocateShortestRow.holds Try.pinned (OpenSpec.ofChange relocateShortestSpec)

/-- ITS FALSE NEIGHBOUR: 'it returns false'. Refute it at one input. -/
def relocateShortestWrong : ChangeSpec := { name := "relocateShortest", fn := fun _ => fun
  | [d1, d2, d3] => { results := [.lit (.bool false)], args := [d1, d2, d3] }
  | _ => none }
def RelocateShortestWrongFalsely : Prop := relocateShortestRow.holds Try.pinned (OpenSpec.ofChange relocateShortestWrong)

/- THE SECOND FORM. 'bulk': how many values and letters a reading holds, each counted each time it is reached (what is shared counts as often as it is met; a slice's spare places count too). A statement '..UptoSaid' is the law's where the arguments, and the package variables that the reading takes, are together of bulk at most 1048576: NARROWER than '..Said'. Prove '..Said' where nothing that the law and all that it calls make is longer than what came in: it says more and counts as full. Else prove '..UptoSaid'. A law counts once. -/
mutual
def uptoBulk {H : Type} : DataW H → Nat
  | .lit (.string bytes) => bytes.length + 1
  | .lit _ => 1
  | .nil => 1
  | .ptr d => uptoBulk d + 1
  | .slice elems spare => uptoBulkAll elems + uptoBulkAll spare + 1
  | .agg parts => uptoBulkAll parts + 1
  | .iface _ d => uptoBulk d + 1
  | .map entries => uptoBulkEntries entries + 1
  | .held _ => 1
def uptoBulkAll {H : Type} : List (DataW H) → Nat
  | [] => 0
  | d :: r => uptoBulk d + uptoBulkAll r
def uptoBulkEntries {H : Type} : List (Lit × DataW H) → Nat
  | [] => 0
  | x :: r => uptoBulkEntry x + uptoBulkEntries r
def uptoBulkEntry {H : Type} : Lit × DataW H → Nat
  | (.string bytes, d) => bytes.length + uptoBulk d + 1
  | (_, d) => uptoBulk d + 1
 end
def uptoSmall : (H : Type) → List (DataW H) → Bool := fun _ ds => decide (uptoBulkAll ds ≤ 1048576)
def OpenSpec.upto (s : _root_.Go.ChangeSpec) : _root_.Go.OpenSpec := { _root_.Go.OpenSpec.ofChange s with cond := some uptoSmall }

/-- 'archivumlaw41.RelocatePlans', WHERE WHAT IT READS IS OF BULK AT MOST 1048576: true; the input reads as it did. -/
def relocatePlansUptoRow : OpenClaim := { program := "ythabpkigflldmaa", sum := "551ba724267830ef9ce3db24ffdd81a569205a0d58972ef8e2c660cff9cedd80", func := "archivum/archivumlaw41.RelocatePlans", spec := "relocatePlans", unfollowed := true, recurses := true, apart := false, narrowed := true }
def RelocatePlansUptoSaid : Prop := relocatePlansUptoRow.holds Try.pinned (OpenSpec.upto relocatePlansSpec)

/-- 'archivumlaw41.RelocateCloses', WHERE WHAT IT READS IS OF BULK AT MOST 1048576: true; the input reads as it did. -/
def relocateClosesUptoRow : OpenClaim := { program := "ythabpkigflldmaa", sum := "551ba724267830ef9ce3db24ffdd81a569205a0d58972ef8e2c660cff9cedd80", func := "archivum/archivumlaw41.RelocateCloses", spec := "relocateCloses", unfollowed := true, recurses := true, apart := false, narrowed := true }
def RelocateClosesUptoSaid : Prop := relocateClosesUptoRow.holds Try.pinned (OpenSpec.upto relocateClosesSpec)

/-- 'archivumlaw41.RelocateEither', WHERE WHAT IT READS IS OF BULK AT MOST 1048576: true; the input reads as it did. -/
def relocateEitherUptoRow : OpenClaim := { program := "ythabpkigflldmaa", sum := "551ba724267830ef9ce3db24ffdd81a569205a0d58972ef8e2c660cff9cedd80", func := "archivum/archivumlaw41.RelocateEither", spec := "relocateEither", unfollowed := true, recurses := true, apart := false, narrowed := true }
def RelocateEitherUptoSaid : Prop := relocateEitherUptoRow.holds Try.pinned (OpenSpec.upto relocateEitherSpec)

/-- 'archivumlaw41.RelocateSteps', WHERE WHAT IT READS IS OF BULK AT MOST 1048576: true; the input reads as it did. -/
def relocateStepsUptoRow : OpenClaim := { program := "ythabpkigflldmaa", sum := "551ba724267830ef9ce3db24ffdd81a569205a0d58972ef8e2c660cff9cedd80", func := "archivum/archivumlaw41.RelocateSteps", spec := "relocateSteps", unfollowed := true, recurses := true, apart := false, narrowed := true }
def RelocateStepsUptoSaid : Prop := relocateStepsUptoRow.holds Try.pinned (OpenSpec.upto relocateStepsSpec)

/-- 'archivumlaw41.RelocateApplies', WHERE WHAT IT READS IS OF BULK AT MOST 1048576: true; the input reads as it did. -/
def relocateAppliesUptoRow : OpenClaim := { program := "ythabpkigflldmaa", sum := "551ba724267830ef9ce3db24ffdd81a569205a0d58972ef8e2c660cff9cedd80", func := "archivum/archivumlaw41.RelocateApplies", spec := "relocateApplies", unfollowed := true, recurses := true, apart := false, narrowed := true }
def RelocateAppliesUptoSaid : Prop := relocateAppliesUptoRow.holds Try.pinned (OpenSpec.upto relocateAppliesSpec)

/-- 'archivumlaw41.RelocateSafe', WHERE WHAT IT READS IS OF BULK AT MOST 1048576: true; the input reads as it did. -/
def relocateSafeUptoRow : OpenClaim := { program := "ythabpkigflldmaa", sum := "551ba724267830ef9ce3db24ffdd81a569205a0d58972ef8e2c660cff9cedd80", func := "archivum/archivumlaw41.RelocateSafe", spec := "relocateSafe", unfollowed := true, recurses := true, apart := false, narrowed := true }
def RelocateSafeUptoSaid : Prop := relocateSafeUptoRow.holds Try.pinned (OpenSpec.upto relocateSafeSpec)

/-- 'archivumlaw41.RelocateShortest', WHERE WHAT IT READS IS OF BULK AT MOST 1048576: true; the input reads as it did. -/
def relocateShortestUptoRow : OpenClaim := { program := "ythabpkigflldmaa", sum := "551ba724267830ef9ce3db24ffdd81a569205a0d58972ef8e2c660cff9cedd80", func := "archivum/archivumlaw41.RelocateShortest", spec := "relocateShortest", unfollowed := true, recurses := true, apart := false, narrowed := true }
def RelocateShortestUptoSaid : Prop := relocateShortestUptoRow.holds Try.pinned (OpenSpec.upto relocateShortestSpec)

end Rows
end Go.Proofs.Ythabpkigflldmaa
