/-
  No cell of these rows narrows 'for every input' (looked for: loops, veiled, ifaces, maps, wideKeys, modest, calm, conditions, laid).
  DERIVED. THE GIVEN ROWS OF THIS SEAT. 5 by the template 'for every input the law returns true; each argument reads behind the call as it read before'; 0 by the template 'total and deterministic' (their statements: YthlfemjbeihmbaaTotals.lean).
  GIVEN WITH THE SEED: the statements are not yours to turn. If you find one false, say at which input.
  Laid BY PROGRAM, IN A SANDBOX (cutbox-rows.mjs): the forced cells as the released guide's own fill.sh prints them over the translation f43db01e33e709c6… (all of the seat's roots in one cut). By AI agents, Wed Nov 11 2026. No macro, syntax, notation, axiom, sorry.
-/
import Derived.Test.YthlfemjbeihmbaaChecked
import GoSem.Claim
import GoSem.ClaimJoined
import GoSem.ClaimMapViews
import Derived.JoinedTies
import Derived.KernelRfl
namespace Go.Proofs.Ythlfemjbeihmbaa
/- THE CELL 'sum', in the pinned program and in every row, IS THE sha256 OF THE DUMP (.gsa) THAT YthlfemjbeihmbaaProg.lean LOADS. Nothing in Lean hashes anything: it is a label: what it is worth is what the hold of that sum in a sandbox is worth. -/
noncomputable def Try.pinned : Pinned := { name := "ythlfemjbeihmbaa", sum := "f43db01e33e709c6c5193830dc7e5866b805642368082315f647ebbcf4130d05", checked := Try.checked }
namespace Rows
def none {H : Type} : Left H := { results := [], args := [] }

/-- 'countermandlaw30.WitnessSerial': WHATEVER THE INPUT: true; the input reads as it did. -/
def witnessSerialSpec : ChangeSpec := { name := "witnessSerial", fn := fun _ => fun
  | [d] => { results := [.lit (.bool true)], args := [d] }
  | _ => none }
def witnessSerialRow : OpenClaim := { program := "ythlfemjbeihmbaa", sum := "f43db01e33e709c6c5193830dc7e5866b805642368082315f647ebbcf4130d05", func := "countermand/countermandlaw30.WitnessSerial", spec := "witnessSerial", unfollowed := true, recurses := true, apart := false }
def WitnessSerialSaid : Prop := witnessSerialRow.holds Try.pinned (OpenSpec.ofChange witnessSerialSpec)

/-- ITS FALSE NEIGHBOUR: 'it returns false'. Refute it at one input. -/
def witnessSerialWrong : ChangeSpec := { name := "witnessSerial", fn := fun _ => fun
  | [d] => { results := [.lit (.bool false)], args := [d] }
  | _ => none }
def WitnessSerialWrongFalsely : Prop := witnessSerialRow.holds Try.pinned (OpenSpec.ofChange witnessSerialWrong)

/-- 'countermandlaw30.WitnessReplays': WHATEVER THE INPUT: true; the input reads as it did. -/
def witnessReplaysSpec : ChangeSpec := { name := "witnessReplays", fn := fun _ => fun
  | [d1, d2] => { results := [.lit (.bool true)], args := [d1, d2] }
  | _ => none }
def witnessReplaysRow : OpenClaim := { program := "ythlfemjbeihmbaa", sum := "f43db01e33e709c6c5193830dc7e5866b805642368082315f647ebbcf4130d05", func := "countermand/countermandlaw30.WitnessReplays", spec := "witnessReplays", unfollowed := true, recurses := true, apart := false }
def WitnessReplaysSaid : Prop := witnessReplaysRow.holds Try.pinned (OpenSpec.ofChange witnessReplaysSpec)

/-- ITS FALSE NEIGHBOUR: 'it returns false'. Refute it at one input. -/
def witnessReplaysWrong : ChangeSpec := { name := "witnessReplays", fn := fun _ => fun
  | [d1, d2] => { results := [.lit (.bool false)], args := [d1, d2] }
  | _ => none }
def WitnessReplaysWrongFalsely : Prop := witnessReplaysRow.holds Try.pinned (OpenSpec.ofChange witnessReplaysWrong)

/-- 'countermandlaw30.WitnessFinds': WHATEVER THE INPUT: true; the input reads as it did. -/
def witnessFindsSpec : ChangeSpec := { name := "witnessFinds", fn := fun _ => fun
  | [d1, d2] => { results := [.lit (.bool true)], args := [d1, d2] }
  | _ => none }
def witnessFindsRow : OpenClaim := { program := "ythlfemjbeihmbaa", sum := "f43db01e33e709c6c5193830dc7e5866b805642368082315f647ebbcf4130d05", func := "countermand/countermandlaw30.WitnessFinds", spec := "witnessFinds", unfollowed := true, recurses := true, apart := false }
def WitnessFindsSaid : Prop := witnessFindsRow.holds Try.pinned (OpenSpec.ofChange witnessFindsSpec)

/-- ITS FALSE NEIGHBOUR: 'it returns false'. Refute it at one input. -/
def witnessFindsWrong : ChangeSpec := { name := "witnessFinds", fn := fun _ => fun
  | [d1, d2] => { results := [.lit (.bool false)], args := [d1, d2] }
  | _ => none }
def WitnessFindsWrongFalsely : Prop := witnessFindsRow.holds Try.pinned (OpenSpec.ofChange witnessFindsWrong)

/-- 'countermandlaw30.WitnessFirst': WHATEVER THE INPUT: true; the input reads as it did. -/
def witnessFirstSpec : ChangeSpec := { name := "witnessFirst", fn := fun _ => fun
  | [d1, d2] => { results := [.lit (.bool true)], args := [d1, d2] }
  | _ => none }
def witnessFirstRow : OpenClaim := { program := "ythlfemjbeihmbaa", sum := "f43db01e33e709c6c5193830dc7e5866b805642368082315f647ebbcf4130d05", func := "countermand/countermandlaw30.WitnessFirst", spec := "witnessFirst", unfollowed := true, recurses := true, apart := false }
def WitnessFirstSaid : Prop := witnessFirstRow.holds Try.pinned (OpenSpec.ofChange witnessFirstSpec)

/-- ITS FALSE NEIGHBOUR: 'it returns false'. Refute it at one input. -/
def witnessFirstWrong : ChangeSpec := { name := "witnessFirst", fn := fun _ => fun
  | [d1, d2] => { results := [.lit (.bool false)], args := [d1, d2] }
  | _ => none }
def WitnessFirstWrongFalsely : Prop := witnessFirstRow.holds Try.pinned (OpenSpec.ofChange witnessFirstWrong)

/-- 'countermandlaw30.WitnessLong': WHATEVER THE INPUT: true; the input reads as it did. -/
def witnessLongSpec : ChangeSpec := { name := "witnessLong", fn := fun _ => fun
  | [d] => { results := [.lit (.bool true)], args := [d] }
  | _ => none }
def witnessLongRow : OpenClaim := { program := "ythlfemjbeihmbaa", sum := "f43db01e33e709c6c5193830dc7e5866b805642368082315f647ebbcf4130d05", func := "countermand/countermandlaw30.WitnessLong", spec := "witnessLong", unfollowed := true, recurses := true, apart := false }
def WitnessLongSaid : Prop := witnessLongRow.holds Try.pinned (OpenSpec.ofChange witnessLongSpec)

/-- ITS FALSE NEIGHBOUR: 'it returns false'. Refute it at one input. -/
def witnessLongWrong : ChangeSpec := { name := "witnessLong", fn := fun _ => fun
  | [d] => { results := [.lit (.bool false)], args := [d] }
  | _ => none }
def WitnessLongWrongFalsely : Prop := witnessLongRow.holds Try.pinned (OpenSpec.ofChange witnessLongWrong)

/- THE SECOND FORM. 'bulk': how many values and letters a reading holds, each counted each time it is reached (what is shared counts as often as it is met; a slice's spare places count too). A statement '..UptoSaid' is the law's where the arguments, and the package variables that the reading takes, are together of bulk at most 1048576: NARROWER than '..Said'. Prove '..Said' where nothing that the law and all that it calls make is longer than what came in: it says more and counts as full. Else prove '..UptoSaid'. A law counts once. -/
mutual
def uptoBulk {H : Type} : DataW H → Nat
  | .lit (.string bytes) => bytes.length + 1
  | .lit _ => 1
  | .nil => 1
  | .ptr d => uptoBulk d + 1
  | .slice elems spare => uptoBulkAll elems + uptoBulkAll spare + 1
  | .agg parts => uptoBulkAll parts + 1
  | .iface _ d => uptoBulk d + 1
  | .map entries => uptoBulkEntries entries + 1
  | .held _ => 1
def uptoBulkAll {H : Type} : List (DataW H) → Nat
  | [] => 0
  | d :: r => uptoBulk d + uptoBulkAll r
def uptoBulkEntries {H : Type} : List (Lit × DataW H) → Nat
  | [] => 0
  | x :: r => uptoBulkEntry x + uptoBulkEntries r
def uptoBulkEntry {H : Type} : Lit × DataW H → Nat
  | (.string bytes, d) => bytes.length + uptoBulk d + 1
  | (_, d) => uptoBulk d + 1
 end
def uptoSmall : (H : Type) → List (DataW H) → Bool := fun _ ds => decide (uptoBulkAll ds ≤ 1048576)
def OpenSpec.upto (s : _root_.Go.ChangeSpec) : _root_.Go.OpenSpec := { _root_.Go.OpenSpec.ofChange s with cond := some uptoSmall }

/-- 'countermandlaw30.WitnessSerial', WHERE WHAT IT READS IS OF BULK AT MOST 1048576: true; the input reads as it did. -/
def witnessSerialUptoRow : OpenClaim := { program := "ythlfemjbeihmbaa", sum := "f43db01e33e709c6c5193830dc7e5866b805642368082315f647ebbcf4130d05", func := "countermand/countermandlaw30.WitnessSerial", spec := "witnessSerial", unfollowed := true, recurses := true, apart := false, narrowed := true }
def WitnessSerialUptoSaid : Prop := witnessSerialUptoRow.holds Try.pinned (OpenSpec.upto witnessSerialSpec)

/-- 'countermandlaw30.WitnessReplays', WHERE WHAT IT READS IS OF BULK AT MOST 1048576: true; the input reads as it did. -/
def witnessReplaysUptoRow : OpenClaim := { program := "ythlfemjbeihmbaa", sum := "f43db01e33e709c6c5193830dc7e5866b805642368082315f647ebbcf4130d05", func := "countermand/countermandlaw30.WitnessReplays", spec := "witnessReplays", unfollowed := true, recurses := true, apart := false, narrowed := true }
def WitnessReplaysUptoSaid : Prop := witnessReplaysUptoRow.holds Try.pinned (OpenSpec.upto witnessReplaysSpec)

/-- 'countermandlaw30.WitnessFinds', WHERE WHAT IT READS IS OF BULK AT MOST 1048576: true; the input reads as it did. -/
def witnessFindsUptoRow : OpenClaim := { program := "ythlfemjbeihmbaa", sum := "f43db01e33e709c6c5193830dc7e5866b805642368082315f647ebbcf4130d05", func := "countermand/countermandlaw30.WitnessFinds", spec := "witnessFinds", unfollowed := true, recurses := true, apart := false, narrowed := true }
def WitnessFindsUptoSaid : Prop := witnessFindsUptoRow.holds Try.pinned (OpenSpec.upto witnessFindsSpec)

/-- 'countermandlaw30.WitnessFirst', WHERE WHAT IT READS IS OF BULK AT MOST 1048576: true; the input reads as it did. -/
def witnessFirstUptoRow : OpenClaim := { program := "ythlfemjbeihmbaa", sum := "f43db01e33e709c6c5193830dc7e5866b805642368082315f647ebbcf4130d05", func := "countermand/countermandlaw30.WitnessFirst", spec := "witnessFirst", unfollowed := true, recurses := true, apart := false, narrowed := true }
def WitnessFirstUptoSaid : Prop := witnessFirstUptoRow.holds Try.pinned (OpenSpec.upto witnessFirstSpec)

/-- 'countermandlaw30.WitnessLong', WHERE WHAT IT READS IS OF BULK AT MOST 1048576: true; the input reads as it did. -/
def witnessLongUptoRow : OpenClaim := { program := "ythlfemjbeihmbaa", sum := "f43db01e33e709c6c5193830dc7e5866b805642368082315f647ebbcf4130d05", func := "countermand/countermandlaw30.WitnessLong", spec := "witnessLong", unfollowed := true, recurses := true, apart := false, narrowed := true }
def WitnessLongUptoSaid : Prop := witnessLongUptoRow.holds Try.pinned (OpenSpec.upto witnessLongSpec)

end Rows
end Go.Proofs.Ythlfemjbeihmbaa
