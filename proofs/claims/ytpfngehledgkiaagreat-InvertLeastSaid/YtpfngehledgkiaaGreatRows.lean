/-
  No cell of these rows narrows 'for every input' (looked for: loops, veiled, ifaces, maps, wideKeys, modest, calm, conditions, laid).
  DERIVED. THE GIVEN ROWS OF THIS SEAT. 4 by the template 'for every input the law returns true; each argument reads behind the call as it read before'; 0 by the template 'total and deterministic' (their statements: YtpfngehledgkiaaGreatTotals.lean).
  GIVEN WITH THE SEED: the statements are not yours to turn. If you find one false, say at which input.
  Laid BY PROGRAM, IN A SANDBOX (cutbox-rows.mjs): the forced cells as the released guide's own fill.sh prints them over the translation 218bfdc1501a8560… (all of the seat's roots in one cut). By AI agents, Wed Nov 11 2026. No macro, syntax, notation, axiom, sorry.
-/
import Derived.Test.YtpfngehledgkiaaGreatChecked
import GoSem.Claim
import GoSem.ClaimJoined
import GoSem.ClaimMapViews
import Derived.JoinedTies
import Derived.KernelRfl
namespace Go.Proofs.YtpfngehledgkiaaGreat
/- THE CELL 'sum', in the pinned program and in every row, IS THE sha256 OF THE DUMP (.gsa) THAT YtpfngehledgkiaaGreatProg.lean LOADS. Nothing in Lean hashes anything: it is a label: what it is worth is what the hold of that sum in a sandbox is worth. -/
noncomputable def Tryz.pinned : Pinned := { name := "ytpfngehledgkiaagreat", sum := "218bfdc1501a8560187a8bb1b4aeeb181aee1eef47690617598ae7bdbf096ded", checked := Tryz.checked }
namespace Rows
def none {H : Type} : Left H := { results := [], args := [] }

/-- 'archivumlaw55.InvertBuilds': WHATEVER THE INPUT: true; the input reads as it did. -/
def invertBuildsSpec : ChangeSpec := { name := "invertBuilds", fn := fun _ => fun
  | [d1, d2, d3] => { results := [.lit (.bool true)], args := [d1, d2, d3] }
  | _ => none }
def invertBuildsRow : OpenClaim := { program := "ytpfngehledgkiaagreat", sum := "218bfdc1501a8560187a8bb1b4aeeb181aee1eef47690617598ae7bdbf096ded", func := "archivum/archivumlaw55.InvertBuilds", spec := "invertBuilds", unfollowed := true, recurses := true, apart := false }
def InvertBuildsSaid : Prop := invertBuildsRow.holds Tryz.pinned (OpenSpec.ofChange invertBuildsSpec)

/-- ITS FALSE NEIGHBOUR: 'it returns false'. Refute it at one input. -/
def invertBuildsWrong : ChangeSpec := { name := "invertBuilds", fn := fun _ => fun
  | [d1, d2, d3] => { results := [.lit (.bool false)], args := [d1, d2, d3] }
  | _ => none }
def InvertBuildsWrongFalsely : Prop := invertBuildsRow.holds Tryz.pinned (OpenSpec.ofChange invertBuildsWrong)

/-- 'archivumlaw55.InvertUpdates': WHATEVER THE INPUT: true; the input reads as it did. -/
def invertUpdatesSpec : ChangeSpec := { name := "invertUpdates", fn := fun _ => fun
  | [d1, d2, d3, d4] => { results := [.lit (.bool true)], args := [d1, d2, d3, d4] }
  | _ => none }
def invertUpdatesRow : OpenClaim := { program := "ytpfngehledgkiaagreat", sum := "218bfdc1501a8560187a8bb1b4aeeb181aee1eef47690617598ae7bdbf096ded", func := "archivum/archivumlaw55.InvertUpdates", spec := "invertUpdates", unfollowed := true, recurses := true, apart := false }
def InvertUpdatesSaid : Prop := invertUpdatesRow.holds Tryz.pinned (OpenSpec.ofChange invertUpdatesSpec)

/-- ITS FALSE NEIGHBOUR: 'it returns false'. Refute it at one input. -/
def invertUpdatesWrong : ChangeSpec := { name := "invertUpdates", fn := fun _ => fun
  | [d1, d2, d3, d4] => { results := [.lit (.bool false)], args := [d1, d2, d3, d4] }
  | _ => none }
def InvertUpdatesWrongFalsely : Prop := invertUpdatesRow.holds Tryz.pinned (OpenSpec.ofChange invertUpdatesWrong)

/-- 'archivumlaw55.InvertLeast': WHATEVER THE INPUT: true; the input reads as it did. -/
def invertLeastSpec : ChangeSpec := { name := "invertLeast", fn := fun _ => fun
  | [d1, d2, d3] => { results := [.lit (.bool true)], args := [d1, d2, d3] }
  | _ => none }
def invertLeastRow : OpenClaim := { program := "ytpfngehledgkiaagreat", sum := "218bfdc1501a8560187a8bb1b4aeeb181aee1eef47690617598ae7bdbf096ded", func := "archivum/archivumlaw55.InvertLeast", spec := "invertLeast", unfollowed := true, recurses := true, apart := false }
def InvertLeastSaid : Prop := invertLeastRow.holds Tryz.pinned (OpenSpec.ofChange invertLeastSpec)

/-- ITS FALSE NEIGHBOUR: 'it returns false'. Refute it at one input. -/
def invertLeastWrong : ChangeSpec := { name := "invertLeast", fn := fun _ => fun
  | [d1, d2, d3] => { results := [.lit (.bool false)], args := [d1, d2, d3] }
  | _ => none }
def InvertLeastWrongFalsely : Prop := invertLeastRow.holds Tryz.pinned (OpenSpec.ofChange invertLeastWrong)

/-- 'archivumlaw55.InvertRanges': WHATEVER THE INPUT: true; the input reads as it did. -/
def invertRangesSpec : ChangeSpec := { name := "invertRanges", fn := fun _ => fun
  | [d1, d2] => { results := [.lit (.bool true)], args := [d1, d2] }
  | _ => none }
def invertRangesRow : OpenClaim := { program := "ytpfngehledgkiaagreat", sum := "218bfdc1501a8560187a8bb1b4aeeb181aee1eef47690617598ae7bdbf096ded", func := "archivum/archivumlaw55.InvertRanges", spec := "invertRanges", unfollowed := true, recurses := true, apart := false }
def InvertRangesSaid : Prop := invertRangesRow.holds Tryz.pinned (OpenSpec.ofChange invertRangesSpec)

/-- ITS FALSE NEIGHBOUR: 'it returns false'. Refute it at one input. -/
def invertRangesWrong : ChangeSpec := { name := "invertRanges", fn := fun _ => fun
  | [d1, d2] => { results := [.lit (.bool false)], args := [d1, d2] }
  | _ => none }
def InvertRangesWrongFalsely : Prop := invertRangesRow.holds Tryz.pinned (OpenSpec.ofChange invertRangesWrong)

/- THE SECOND FORM. 'bulk': how many values and letters a reading holds, each counted each time it is reached (what is shared counts as often as it is met; a slice's spare places count too). A statement '..UptoSaid' is the law's where the arguments, and the package variables that the reading takes, are together of bulk at most 1048576: NARROWER than '..Said'. Prove '..Said' where nothing that the law and all that it calls make is longer than what came in: it says more and counts as full. Else prove '..UptoSaid'. A law counts once. -/
mutual
def uptoBulk {H : Type} : DataW H → Nat
  | .lit (.string bytes) => bytes.length + 1
  | .lit _ => 1
  | .nil => 1
  | .ptr d => uptoBulk d + 1
  | .slice elems spare => uptoBulkAll elems + uptoBulkAll spare + 1
  | .agg parts => uptoBulkAll parts + 1
  | .iface _ d => uptoBulk d + 1
  | .map entries => uptoBulkEntries entries + 1
  | .held _ => 1
def uptoBulkAll {H : Type} : List (DataW H) → Nat
  | [] => 0
  | d :: r => uptoBulk d + uptoBulkAll r
def uptoBulkEntries {H : Type} : List (Lit × DataW H) → Nat
  | [] => 0
  | x :: r => uptoBulkEntry x + uptoBulkEntries r
def uptoBulkEntry {H : Type} : Lit × DataW H → Nat
  | (.string bytes, d) => bytes.length + uptoBulk d + 1
  | (_, d) => uptoBulk d + 1
 end
def uptoSmall : (H : Type) → List (DataW H) → Bool := fun _ ds => decide (uptoBulkAll ds ≤ 1048576)
def OpenSpec.upto (s : _root_.Go.ChangeSpec) : _root_.Go.OpenSpec := { _root_.Go.OpenSpec.ofChange s with cond := some uptoSmall }

/-- 'archivumlaw55.InvertBuilds', WHERE WHAT IT READS IS OF BULK AT MOST 1048576: true; the input reads as it did. -/
def invertBuildsUptoRow : OpenClaim := { program := "ytpfngehledgkiaagreat", sum := "218bfdc1501a8560187a8bb1b4aeeb181aee1eef47690617598ae7bdbf096ded", func := "archivum/archivumlaw55.InvertBuilds", spec := "invertBuilds", unfollowed := true, recurses := true, apart := false, narrowed := true }
def InvertBuildsUptoSaid : Prop := invertBuildsUptoRow.holds Tryz.pinned (OpenSpec.upto invertBuildsSpec)

/-- 'archivumlaw55.InvertUpdates', WHERE WHAT IT READS IS OF BULK AT MOST 1048576: true; the input reads as it did. -/
def invertUpdatesUptoRow : OpenClaim := { program := "ytpfngehledgkiaagreat", sum := "218bfdc1501a8560187a8bb1b4aeeb181aee1eef47690617598ae7bdbf096ded", func := "archivum/archivumlaw55.InvertUpdates", spec := "invertUpdates", unfollowed := true, recurses := true, apart := false, narrowed := true }
def InvertUpdatesUptoSaid : Prop := invertUpdatesUptoRow.holds Tryz.pinned (OpenSpec.upto invertUpdatesSpec)

/-- 'archivumlaw55.InvertLeast', WHERE WHAT IT READS IS OF BULK AT MOST 1048576: true; the input reads as it did. -/
def invertLeastUptoRow : OpenClaim := { program := "ytpfngehledgkiaagreat", sum := "218bfdc1501a8560187a8bb1b4aeeb181aee1eef47690617598ae7bdbf096ded", func := "archivum/archivumlaw55.InvertLeast", spec := "invertLeast", unfollowed := true, recurses := true, apart := false, narrowed := true }
def InvertLeastUptoSaid : Prop := invertLeastUptoRow.holds Tryz.pinned (OpenSpec.upto invertLeastSpec)

/-- 'archivumlaw55.InvertRanges', WHERE WHAT IT READS IS OF BULK AT MOST 1048576: true; the input reads as it did. -/
def invertRangesUptoRow : OpenClaim := { program := "ytpfngehledgkiaagreat", sum := "218bfdc1501a8560187a8bb1b4aeeb181aee1eef47690617598ae7bdbf096ded", func := "archivum/archivumlaw55.InvertRanges", spec := "invertRanges", unfollowed := true, recurses := true, apart := false, narrowed := true }
def InvertRangesUptoSaid : Prop := invertRangesUptoRow.holds Tryz.pinned (OpenSpec.upto invertRangesSpec)

end Rows
end Go.Proofs.YtpfngehledgkiaaGreat
