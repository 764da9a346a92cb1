/-
  No cell of these rows narrows 'for every input' (looked for: loops, veiled, ifaces, maps, wideKeys, modest, calm, conditions, laid).
  DERIVED. THE GIVEN ROWS OF THIS SEAT. 6 by the template 'for every input the law returns true; each argument reads behind the call as it read before'; 0 by the template 'total and deterministic' (their statements: YtbphjihgbenkdaaGreatTotals.lean).
  GIVEN WITH THE SEED: the statements are not yours to turn. If you find one false, say at which input.
  Laid BY PROGRAM, IN A SANDBOX (cutbox-rows.mjs): the forced cells as the released guide's own fill.sh prints them over the translation 7e1495ba8021538d… (all of the seat's roots in one cut). By AI agents, Wed Nov 11 2026. No macro, syntax, notation, axiom, sorry.
-/
import Derived.Test.YtbphjihgbenkdaaGreatChecked
import GoSem.Claim
import GoSem.ClaimJoined
import GoSem.ClaimMapViews
import Derived.JoinedTies
import Derived.KernelRfl
namespace Go.Proofs.YtbphjihgbenkdaaGreat
/- THE CELL 'sum', in the pinned program and in every row, IS THE sha256 OF THE DUMP (.gsa) THAT YtbphjihgbenkdaaGreatProg.lean LOADS. Nothing in Lean hashes anything: it is a label: what it is worth is what the hold of that sum in a sandbox is worth. -/
noncomputable def Tryz.pinned : Pinned := { name := "ytbphjihgbenkdaagreat", sum := "7e1495ba8021538db20d54f717d14084222094147cf640199c04d96040e15059", checked := Tryz.checked }
namespace Rows
def none {H : Type} : Left H := { results := [], args := [] }

/-- 'countermandlaw22.CommitLands': WHATEVER THE INPUT: true; the input reads as it did. -/
def commitLandsSpec : ChangeSpec := { name := "commitLands", fn := fun _ => fun
  | [d1, d2] => { results := [.lit (.bool true)], args := [d1, d2] }
  | _ => none }
def commitLandsRow : OpenClaim := { program := "ytbphjihgbenkdaagreat", sum := "7e1495ba8021538db20d54f717d14084222094147cf640199c04d96040e15059", func := "countermand/countermandlaw22.CommitLands", spec := "commitLands", inPlace := ["slices.overlaps[countermand/draft.entry[int]]", "slices.overlaps[countermand/draft.entry[countermand/file.File]]", "internal/abi.NoEscape", "internal/bytealg.MakeNoZero"], unfollowed := true, recurses := true, apart := false }
def CommitLandsSaid : Prop := commitLandsRow.holds Tryz.pinned (OpenSpec.ofChange commitLandsSpec)

/-- ITS FALSE NEIGHBOUR: 'it returns false'. Refute it at one input. -/
def commitLandsWrong : ChangeSpec := { name := "commitLands", fn := fun _ => fun
  | [d1, d2] => { results := [.lit (.bool false)], args := [d1, d2] }
  | _ => none }
def CommitLandsWrongFalsely : Prop := commitLandsRow.holds Tryz.pinned (OpenSpec.ofChange commitLandsWrong)

/-- 'countermandlaw22.CommitLasts': WHATEVER THE INPUT: true; the input reads as it did. -/
def commitLastsSpec : ChangeSpec := { name := "commitLasts", fn := fun _ => fun
  | [d1, d2, d3, d4] => { results := [.lit (.bool true)], args := [d1, d2, d3, d4] }
  | _ => none }
def commitLastsRow : OpenClaim := { program := "ytbphjihgbenkdaagreat", sum := "7e1495ba8021538db20d54f717d14084222094147cf640199c04d96040e15059", func := "countermand/countermandlaw22.CommitLasts", spec := "commitLasts", inPlace := ["slices.overlaps[countermand/draft.entry[int]]", "slices.overlaps[countermand/draft.entry[countermand/file.File]]", "internal/abi.NoEscape", "internal/bytealg.MakeNoZero"], unfollowed := true, recurses := true, apart := false }
def CommitLastsSaid : Prop := commitLastsRow.holds Tryz.pinned (OpenSpec.ofChange commitLastsSpec)

/-- ITS FALSE NEIGHBOUR: 'it returns false'. Refute it at one input. -/
def commitLastsWrong : ChangeSpec := { name := "commitLasts", fn := fun _ => fun
  | [d1, d2, d3, d4] => { results := [.lit (.bool false)], args := [d1, d2, d3, d4] }
  | _ => none }
def CommitLastsWrongFalsely : Prop := commitLastsRow.holds Tryz.pinned (OpenSpec.ofChange commitLastsWrong)

/-- 'countermandlaw22.CommitSure': WHATEVER THE INPUT: true; the input reads as it did. -/
def commitSureSpec : ChangeSpec := { name := "commitSure", fn := fun _ => fun
  | [d1, d2, d3] => { results := [.lit (.bool true)], args := [d1, d2, d3] }
  | _ => none }
def commitSureRow : OpenClaim := { program := "ytbphjihgbenkdaagreat", sum := "7e1495ba8021538db20d54f717d14084222094147cf640199c04d96040e15059", func := "countermand/countermandlaw22.CommitSure", spec := "commitSure", inPlace := ["slices.overlaps[countermand/draft.entry[int]]", "slices.overlaps[countermand/draft.entry[countermand/file.File]]", "internal/abi.NoEscape", "internal/bytealg.MakeNoZero"], unfollowed := true, recurses := true, apart := false }
def CommitSureSaid : Prop := commitSureRow.holds Tryz.pinned (OpenSpec.ofChange commitSureSpec)

/-- ITS FALSE NEIGHBOUR: 'it returns false'. Refute it at one input. -/
def commitSureWrong : ChangeSpec := { name := "commitSure", fn := fun _ => fun
  | [d1, d2, d3] => { results := [.lit (.bool false)], args := [d1, d2, d3] }
  | _ => none }
def CommitSureWrongFalsely : Prop := commitSureRow.holds Tryz.pinned (OpenSpec.ofChange commitSureWrong)

/-- 'countermandlaw22.CommitSteps': WHATEVER THE INPUT: true; the input reads as it did. -/
def commitStepsSpec : ChangeSpec := { name := "commitSteps", fn := fun _ => fun
  | [d1, d2, d3, d4] => { results := [.lit (.bool true)], args := [d1, d2, d3, d4] }
  | _ => none }
def commitStepsRow : OpenClaim := { program := "ytbphjihgbenkdaagreat", sum := "7e1495ba8021538db20d54f717d14084222094147cf640199c04d96040e15059", func := "countermand/countermandlaw22.CommitSteps", spec := "commitSteps", inPlace := ["slices.overlaps[countermand/draft.entry[int]]", "slices.overlaps[countermand/draft.entry[countermand/file.File]]", "internal/abi.NoEscape", "internal/bytealg.MakeNoZero"], unfollowed := true, recurses := true, apart := false }
def CommitStepsSaid : Prop := commitStepsRow.holds Tryz.pinned (OpenSpec.ofChange commitStepsSpec)

/-- ITS FALSE NEIGHBOUR: 'it returns false'. Refute it at one input. -/
def commitStepsWrong : ChangeSpec := { name := "commitSteps", fn := fun _ => fun
  | [d1, d2, d3, d4] => { results := [.lit (.bool false)], args := [d1, d2, d3, d4] }
  | _ => none }
def CommitStepsWrongFalsely : Prop := commitStepsRow.holds Tryz.pinned (OpenSpec.ofChange commitStepsWrong)

/-- 'countermandlaw22.CommitAborts': WHATEVER THE INPUT: true; the input reads as it did. -/
def commitAbortsSpec : ChangeSpec := { name := "commitAborts", fn := fun _ => fun
  | [d1, d2, d3] => { results := [.lit (.bool true)], args := [d1, d2, d3] }
  | _ => none }
def commitAbortsRow : OpenClaim := { program := "ytbphjihgbenkdaagreat", sum := "7e1495ba8021538db20d54f717d14084222094147cf640199c04d96040e15059", func := "countermand/countermandlaw22.CommitAborts", spec := "commitAborts", inPlace := ["slices.overlaps[countermand/draft.entry[int]]", "slices.overlaps[countermand/draft.entry[countermand/file.File]]", "internal/abi.NoEscape", "internal/bytealg.MakeNoZero"], unfollowed := true, recurses := true, apart := false }
def CommitAbortsSaid : Prop := commitAbortsRow.holds Tryz.pinned (OpenSpec.ofChange commitAbortsSpec)

/-- ITS FALSE NEIGHBOUR: 'it returns false'. Refute it at one input. -/
def commitAbortsWrong : ChangeSpec := { name := "commitAborts", fn := fun _ => fun
  | [d1, d2, d3] => { results := [.lit (.bool false)], args := [d1, d2, d3] }
  | _ => none }
def CommitAbortsWrongFalsely : Prop := commitAbortsRow.holds Tryz.pinned (OpenSpec.ofChange commitAbortsWrong)

/-- 'countermandlaw22.CommitRefused': WHATEVER THE INPUT: true; the input reads as it did. -/
def commitRefusedSpec : ChangeSpec := { name := "commitRefused", fn := fun _ => fun
  | [d1, d2, d3, d4] => { results := [.lit (.bool true)], args := [d1, d2, d3, d4] }
  | _ => none }
def commitRefusedRow : OpenClaim := { program := "ytbphjihgbenkdaagreat", sum := "7e1495ba8021538db20d54f717d14084222094147cf640199c04d96040e15059", func := "countermand/countermandlaw22.CommitRefused", spec := "commitRefused", inPlace := ["slices.overlaps[countermand/draft.entry[int]]", "slices.overlaps[countermand/draft.entry[countermand/file.File]]", "internal/abi.NoEscape", "internal/bytealg.MakeNoZero"], unfollowed := true, recurses := true, apart := false }
def CommitRefusedSaid : Prop := commitRefusedRow.holds Tryz.pinned (OpenSpec.ofChange commitRefusedSpec)

/-- ITS FALSE NEIGHBOUR: 'it returns false'. Refute it at one input. -/
def commitRefusedWrong : ChangeSpec := { name := "commitRefused", fn := fun _ => fun
  | [d1, d2, d3, d4] => { results := [.lit (.bool false)], args := [d1, d2, d3, d4] }
  | _ => none }
def CommitRefusedWrongFalsely : Prop := commitRefusedRow.holds Tryz.pinned (OpenSpec.ofChange commitRefusedWrong)

/- THE SECOND FORM. 'bulk': how many values and letters a reading holds, each counted each time it is reached (what is shared counts as often as it is met; a slice's spare places count too). A statement '..UptoSaid' is the law's where the arguments, and the package variables that the reading takes, are together of bulk at most 1048576: NARROWER than '..Said'. Prove '..Said' where nothing that the law and all that it calls make is longer than what came in: it says more and counts as full. Else prove '..UptoSaid'. A law counts once. -/
mutual
def uptoBulk {H : Type} : DataW H → Nat
  | .lit (.string bytes) => bytes.length + 1
  | .lit _ => 1
  | .nil => 1
  | .ptr d => uptoBulk d + 1
  | .slice elems spare => uptoBulkAll elems + uptoBulkAll spare + 1
  | .agg parts => uptoBulkAll parts + 1
  | .iface _ d => uptoBulk d + 1
  | .map entries => uptoBulkEntries entries + 1
  | .held _ => 1
def uptoBulkAll {H : Type} : List (DataW H) → Nat
  | [] => 0
  | d :: r => uptoBulk d + uptoBulkAll r
def uptoBulkEntries {H : Type} : List (Lit × DataW H) → Nat
  | [] => 0
  | x :: r => uptoBulkEntry x + uptoBulkEntries r
def uptoBulkEntry {H : Type} : Lit × DataW H → Nat
  | (.string bytes, d) => bytes.length + uptoBulk d + 1
  | (_, d) => uptoBulk d + 1
 end
def uptoSmall : (H : Type) → List (DataW H) → Bool := fun _ ds => decide (uptoBulkAll ds ≤ 1048576)
def OpenSpec.upto (s : _root_.Go.ChangeSpec) : _root_.Go.OpenSpec := { _root_.Go.OpenSpec.ofChange s with cond := some uptoSmall }

/-- 'countermandlaw22.CommitLands', WHERE WHAT IT READS IS OF BULK AT MOST 1048576: true; the input reads as it did. -/
def commitLandsUptoRow : OpenClaim := { program := "ytbphjihgbenkdaagreat", sum := "7e1495ba8021538db20d54f717d14084222094147cf640199c04d96040e15059", func := "countermand/countermandlaw22.CommitLands", spec := "commitLands", inPlace := ["slices.overlaps[countermand/draft.entry[int]]", "slices.overlaps[countermand/draft.entry[countermand/file.File]]", "internal/abi.NoEscape", "internal/bytealg.MakeNoZero"], unfollowed := true, recurses := true, apart := false, narrowed := true }
def CommitLandsUptoSaid : Prop := commitLandsUptoRow.holds Tryz.pinned (OpenSpec.upto commitLandsSpec)

/-- 'countermandlaw22.CommitLasts', WHERE WHAT IT READS IS OF BULK AT MOST 1048576: true; the input reads as it did. -/
def commitLastsUptoRow : OpenClaim := { program := "ytbphjihgbenkdaagreat", sum := "7e1495ba8021538db20d54f717d14084222094147cf640199c04d96040e15059", func := "countermand/countermandlaw22.CommitLasts", spec := "commitLasts", inPlace := ["slices.overlaps[countermand/draft.entry[int]]", "slices.overlaps[countermand/draft.entry[countermand/file.File]]", "internal/abi.NoEscape", "internal/bytealg.MakeNoZero"], unfollowed := true, recurses := true, apart := false, narrowed := true }
def CommitLastsUptoSaid : Prop := commitLastsUptoRow.holds Tryz.pinned (OpenSpec.upto commitLastsSpec)

/-- 'countermandlaw22.CommitSure', WHERE WHAT IT READS IS OF BULK AT MOST 1048576: true; the input reads as it did. -/
def commitSureUptoRow : OpenClaim := { program := "ytbphjihgbenkdaagreat", sum := "7e1495ba8021538db20d54f717d14084222094147cf640199c04d96040e15059", func := "countermand/countermandlaw22.CommitSure", spec := "commitSure", inPlace := ["slices.overlaps[countermand/draft.entry[int]]", "slices.overlaps[countermand/draft.entry[countermand/file.File]]", "internal/abi.NoEscape", "internal/bytealg.MakeNoZero"], unfollowed := true, recurses := true, apart := false, narrowed := true }
def CommitSureUptoSaid : Prop := commitSureUptoRow.holds Tryz.pinned (OpenSpec.upto commitSureSpec)

/-- 'countermandlaw22.CommitSteps', WHERE WHAT IT READS IS OF BULK AT MOST 1048576: true; the input reads as it did. -/
def commitStepsUptoRow : OpenClaim := { program := "ytbphjihgbenkdaagreat", sum := "7e1495ba8021538db20d54f717d14084222094147cf640199c04d96040e15059", func := "countermand/countermandlaw22.CommitSteps", spec := "commitSteps", inPlace := ["slices.overlaps[countermand/draft.entry[int]]", "slices.overlaps[countermand/draft.entry[countermand/file.File]]", "internal/abi.NoEscape", "internal/bytealg.MakeNoZero"], unfollowed := true, recurses := true, apart := false, narrowed := true }
def CommitStepsUptoSaid : Prop := commitStepsUptoRow.holds Tryz.pinned (OpenSpec.upto commitStepsSpec)

/-- 'countermandlaw22.CommitAborts', WHERE WHAT IT READS IS OF BULK AT MOST 1048576: true; the input reads as it did. -/
def commitAbortsUptoRow : OpenClaim := { program := "ytbphjihgbenkdaagreat", sum := "7e1495ba8021538db20d54f717d14084222094147cf640199c04d96040e15059", func := "countermand/countermandlaw22.CommitAborts", spec := "commitAborts", inPlace := ["slices.overlaps[countermand/draft.entry[int]]", "slices.overlaps[countermand/draft.entry[countermand/file.File]]", "internal/abi.NoEscape", "internal/bytealg.MakeNoZero"], unfollowed := true, recurses := true, apart := false, narrowed := true }
def CommitAbortsUptoSaid : Prop := commitAbortsUptoRow.holds Tryz.pinned (OpenSpec.upto commitAbortsSpec)

/-- 'countermandlaw22.CommitRefused', WHERE WHAT IT READS IS OF BULK AT MOST 1048576: true; the input reads as it did. -/
def commitRefusedUptoRow : OpenClaim := { program := "ytbphjihgbenkdaagreat", sum := "7e1495ba8021538db20d54f717d14084222094147cf640199c04d96040e15059", func := "countermand/countermandlaw22.CommitRefused", spec := "commitRefused", inPlace := ["slices.overlaps[countermand/draft.entry[int]]", "slices.overlaps[countermand/draft.entry[countermand/file.File]]", "internal/abi.NoEscape", "internal/bytealg.MakeNoZero"], unfollowed := true, recurses := true, apart := false, narrowed := true }
def CommitRefusedUptoSaid : Prop := commitRefusedUptoRow.holds Tryz.pinned (OpenSpec.upto commitRefusedSpec)

end Rows
end Go.Proofs.YtbphjihgbenkdaaGreat
