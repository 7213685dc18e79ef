/-
  No cell of these rows narrows 'for every input' (looked for: loops, veiled, ifaces, maps, wideKeys, modest, calm, conditions, laid).
  DERIVED. THE GIVEN ROWS OF THIS SEAT. 3 by the template 'for every input the law returns true; each argument reads behind the call as it read before'; 0 by the template 'total and deterministic' (their statements: YtpfngehledgkiaaTotals.lean).
  GIVEN WITH THE SEED: the statements are not yours to turn. If you find one false, say at which input.
  Laid BY PROGRAM, IN A SANDBOX (cutbox-rows.mjs): the forced cells as the released guide's own fill.sh prints them over the translation b3f1db33ad263e6d… (all of the seat's roots in one cut). By AI agents, Wed Nov 11 2026. No macro, syntax, notation, axiom, sorry.
-/
import Derived.Test.YtpfngehledgkiaaChecked
import GoSem.Claim
import GoSem.ClaimJoined
import GoSem.ClaimMapViews
import Derived.JoinedTies
import Derived.KernelRfl
namespace Go.Proofs.Ytpfngehledgkiaa
/- THE CELL 'sum', in the pinned program and in every row, IS THE sha256 OF THE DUMP (.gsa) THAT YtpfngehledgkiaaProg.lean LOADS. Nothing in Lean hashes anything: it is a label: what it is worth is what the hold of that sum in a sandbox is worth. -/
noncomputable def Try.pinned : Pinned := { name := "ytpfngehledgkiaa", sum := "b3f1db33ad263e6dc8280f15e85256f60924bd6b5213dac3b3ba811e71ecc568", checked := Try.checked }
namespace Rows
def none {H : Type} : Left H := { results := [], args := [] }

/-- 'archivumlaw55.InvertScratch': WHATEVER THE INPUT: true; the input reads as it did. -/
def invertScratchSpec : ChangeSpec := { name := "invertScratch", fn := fun _ => fun
  | [d1, d2] => { results := [.lit (.bool true)], args := [d1, d2] }
  | _ => none }
def invertScratchRow : OpenClaim := { program := "ytpfngehledgkiaa", sum := "b3f1db33ad263e6dc8280f15e85256f60924bd6b5213dac3b3ba811e71ecc568", func := "archivum/archivumlaw55.InvertScratch", spec := "invertScratch", unfollowed := true, recurses := true, apart := false }
def InvertScratchSaid : Prop := invertScratchRow.holds Try.pinned (OpenSpec.ofChange invertScratchSpec)

/-- ITS FALSE NEIGHBOUR: 'it returns false'. Refute it at one input. -/
def invertScratchWrong : ChangeSpec := { name := "invertScratch", fn := fun _ => fun
  | [d1, d2] => { results := [.lit (.bool false)], args := [d1, d2] }
  | _ => none }
def InvertScratchWrongFalsely : Prop := invertScratchRow.holds Try.pinned (OpenSpec.ofChange invertScratchWrong)

/-- 'archivumlaw55.InvertComplete': WHATEVER THE INPUT: true; the input reads as it did. -/
def invertCompleteSpec : ChangeSpec := { name := "invertComplete", fn := fun _ => fun
  | [d1, d2] => { results := [.lit (.bool true)], args := [d1, d2] }
  | _ => none }
def invertCompleteRow : OpenClaim := { program := "ytpfngehledgkiaa", sum := "b3f1db33ad263e6dc8280f15e85256f60924bd6b5213dac3b3ba811e71ecc568", func := "archivum/archivumlaw55.InvertComplete", spec := "invertComplete", unfollowed := true, recurses := true, apart := false }
def InvertCompleteSaid : Prop := invertCompleteRow.holds Try.pinned (OpenSpec.ofChange invertCompleteSpec)

/-- ITS FALSE NEIGHBOUR: 'it returns false'. Refute it at one input. -/
def invertCompleteWrong : ChangeSpec := { name := "invertComplete", fn := fun _ => fun
  | [d1, d2] => { results := [.lit (.bool false)], args := [d1, d2] }
  | _ => none }
def InvertCompleteWrongFalsely : Prop := invertCompleteRow.holds Try.pinned (OpenSpec.ofChange invertCompleteWrong)

/-- 'archivumlaw55.InvertLists': WHATEVER THE INPUT: true; the input reads as it did. -/
def invertListsSpec : ChangeSpec := { name := "invertLists", fn := fun _ => fun
  | [d1, d2] => { results := [.lit (.bool true)], args := [d1, d2] }
  | _ => none }
def invertListsRow : OpenClaim := { program := "ytpfngehledgkiaa", sum := "b3f1db33ad263e6dc8280f15e85256f60924bd6b5213dac3b3ba811e71ecc568", func := "archivum/archivumlaw55.InvertLists", spec := "invertLists", unfollowed := true, recurses := true, apart := false }
def InvertListsSaid : Prop := invertListsRow.holds Try.pinned (OpenSpec.ofChange invertListsSpec)

/-- ITS FALSE NEIGHBOUR: 'it returns false'. Refute it at one input. -/
def invertListsWrong : ChangeSpec := { name := "invertLists", fn := fun _ => fun
  | [d1, d2] => { results := [.lit (.bool false)], args := [d1, d2] }
  | _ => none }
def InvertListsWrongFalsely : Prop := invertListsRow.holds Try.pinned (OpenSpec.ofChange invertListsWrong)

/- THE SECOND FORM. 'bulk': how many values and letters a reading holds, each counted each time it is reached (what is shared counts as often as it is met; a slice's spare places count too). A statement '..UptoSaid' is the law's where the arguments, and the package variables that the reading takes, are together of bulk at most 1048576: NARROWER than '..Said'. Prove '..Said' where nothing that the law and all that it calls make is longer than what came in: it says more and counts as full. Else prove '..UptoSaid'. A law counts once. -/
mutual
def uptoBulk {H : Type} : DataW H → Nat
  | .lit (.string bytes) => bytes.length + 1
  | .lit _ => 1
  | .nil => 1
  | .ptr d => uptoBulk d + 1
  | .slice elems spare => uptoBulkAll elems + uptoBulkAll spare + 1
  | .agg parts => uptoBulkAll parts + 1
  | .iface _ d => uptoBulk d + 1
  | .map entries => uptoBulkEntries entries + 1
  | .held _ => 1
def uptoBulkAll {H : Type} : List (DataW H) → Nat
  | [] => 0
  | d :: r => uptoBulk d + uptoBulkAll r
def uptoBulkEntries {H : Type} : List (Lit × DataW H) → Nat
  | [] => 0
  | x :: r => uptoBulkEntry x + uptoBulkEntries r
def uptoBulkEntry {H : Type} : Lit × DataW H → Nat
  | (.string bytes, d) => bytes.length + uptoBulk d + 1
  | (_, d) => uptoBulk d + 1
 end
def uptoSmall : (H : Type) → List (DataW H) → Bool := fun _ ds => decide (uptoBulkAll ds ≤ 1048576)
def OpenSpec.upto (s : _root_.Go.ChangeSpec) : _root_.Go.OpenSpec := { _root_.Go.OpenSpec.ofChange s with cond := some uptoSmall }

/-- 'archivumlaw55.InvertScratch', WHERE WHAT IT READS IS OF BULK AT MOST 1048576: true; the input reads as it did. -/
def invertScratchUptoRow : OpenClaim := { program := "ytpfngehledgkiaa", sum := "b3f1db33ad263e6dc8280f15e85256f60924bd6b5213dac3b3ba811e71ecc568", func := "archivum/archivumlaw55.InvertScratch", spec := "invertScratch", unfollowed := true, recurses := true, apart := false, narrowed := true }
def InvertScratchUptoSaid : Prop := invertScratchUptoRow.holds Try.pinned (OpenSpec.upto invertScratchSpec)

/-- 'archivumlaw55.InvertComplete', WHERE WHAT IT READS IS OF BULK AT MOST 1048576: true; the input reads as it did. -/
def invertCompleteUptoRow : OpenClaim := { program := "ytpfngehledgkiaa", sum := "b3f1db33ad263e6dc8280f15e85256f60924bd6b5213dac3b3ba811e71ecc568", func := "archivum/archivumlaw55.InvertComplete", spec := "invertComplete", unfollowed := true, recurses := true, apart := false, narrowed := true }
def InvertCompleteUptoSaid : Prop := invertCompleteUptoRow.holds Try.pinned (OpenSpec.upto invertCompleteSpec)

/-- 'archivumlaw55.InvertLists', WHERE WHAT IT READS IS OF BULK AT MOST 1048576: true; the input reads as it did. -/
def invertListsUptoRow : OpenClaim := { program := "ytpfngehledgkiaa", sum := "b3f1db33ad263e6dc8280f15e85256f60924bd6b5213dac3b3ba811e71ecc568", func := "archivum/archivumlaw55.InvertLists", spec := "invertLists", unfollowed := true, recurses := true, apart := false, narrowed := true }
def InvertListsUptoSaid : Prop := invertListsUptoRow.holds Try.pinned (OpenSpec.upto invertListsSpec)

end Rows
end Go.Proofs.Ytpfngehledgkiaa
