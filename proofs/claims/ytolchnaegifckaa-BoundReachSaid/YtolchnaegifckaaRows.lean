/-
  No cell of these rows narrows 'for every input' (looked for: loops, veiled, ifaces, maps, wideKeys, modest, calm, conditions, laid).
  DERIVED. THE GIVEN ROWS OF THIS SEAT. 11 by the template 'for every input the law returns true; each argument reads behind the call as it read before'; 0 by the template 'total and deterministic' (their statements: YtolchnaegifckaaTotals.lean).
  GIVEN WITH THE SEED: the statements are not yours to turn. If you find one false, say at which input.
  Laid BY PROGRAM, IN A SANDBOX (cutbox-rows.mjs): the forced cells as the released guide's own fill.sh prints them over the translation 85f5b960c66cd58b… (all of the seat's roots in one cut). By AI agents, Wed Nov 11 2026. No macro, syntax, notation, axiom, sorry.
-/
import Derived.Test.YtolchnaegifckaaChecked
import GoSem.Claim
import GoSem.ClaimJoined
import GoSem.ClaimMapViews
import Derived.JoinedTies
import Derived.KernelRfl
namespace Go.Proofs.Ytolchnaegifckaa
/- THE CELL 'sum', in the pinned program and in every row, IS THE sha256 OF THE DUMP (.gsa) THAT YtolchnaegifckaaProg.lean LOADS. Nothing in Lean hashes anything: it is a label: what it is worth is what the hold of that sum in a sandbox is worth. -/
noncomputable def Try.pinned : Pinned := { name := "ytolchnaegifckaa", sum := "85f5b960c66cd58b26ad7ebfae68cd45520715f6fad0612b8bdc14a98752d06b", checked := Try.checked }
namespace Rows
def none {H : Type} : Left H := { results := [], args := [] }

/-- 'countermandlaw27.BoundBlocks': WHATEVER THE INPUT: true; the input reads as it did. -/
def boundBlocksSpec : ChangeSpec := { name := "boundBlocks", fn := fun _ => fun
  | [d1, d2] => { results := [.lit (.bool true)], args := [d1, d2] }
  | _ => none }
def boundBlocksRow : OpenClaim := { program := "ytolchnaegifckaa", sum := "85f5b960c66cd58b26ad7ebfae68cd45520715f6fad0612b8bdc14a98752d06b", func := "countermand/countermandlaw27.BoundBlocks", spec := "boundBlocks", apart := false }
def BoundBlocksSaid : Prop := boundBlocksRow.holds Try.pinned (OpenSpec.ofChange boundBlocksSpec)

/-- ITS FALSE NEIGHBOUR: 'it returns false'. Refute it at one input. -/
def boundBlocksWrong : ChangeSpec := { name := "boundBlocks", fn := fun _ => fun
  | [d1, d2] => { results := [.lit (.bool false)], args := [d1, d2] }
  | _ => none }
def BoundBlocksWrongFalsely : Prop := boundBlocksRow.holds Try.pinned (OpenSpec.ofChange boundBlocksWrong)

/-- 'countermandlaw27.BoundNext': WHATEVER THE INPUT: true; the input reads as it did. -/
def boundNextSpec : ChangeSpec := { name := "boundNext", fn := fun _ => fun
  | [d1, d2] => { results := [.lit (.bool true)], args := [d1, d2] }
  | _ => none }
def boundNextRow : OpenClaim := { program := "ytolchnaegifckaa", sum := "85f5b960c66cd58b26ad7ebfae68cd45520715f6fad0612b8bdc14a98752d06b", func := "countermand/countermandlaw27.BoundNext", spec := "boundNext", apart := false }
def BoundNextSaid : Prop := boundNextRow.holds Try.pinned (OpenSpec.ofChange boundNextSpec)

/-- ITS FALSE NEIGHBOUR: 'it returns false'. Refute it at one input. -/
def boundNextWrong : ChangeSpec := { name := "boundNext", fn := fun _ => fun
  | [d1, d2] => { results := [.lit (.bool false)], args := [d1, d2] }
  | _ => none }
def BoundNextWrongFalsely : Prop := boundNextRow.holds Try.pinned (OpenSpec.ofChange boundNextWrong)

/-- 'countermandlaw27.BoundSmall': WHATEVER THE INPUT: true; the input reads as it did. -/
def boundSmallSpec : ChangeSpec := { name := "boundSmall", fn := fun _ => fun
  | [d] => { results := [.lit (.bool true)], args := [d] }
  | _ => none }
def boundSmallRow : OpenClaim := { program := "ytolchnaegifckaa", sum := "85f5b960c66cd58b26ad7ebfae68cd45520715f6fad0612b8bdc14a98752d06b", func := "countermand/countermandlaw27.BoundSmall", spec := "boundSmall", apart := false }
def BoundSmallSaid : Prop := boundSmallRow.holds Try.pinned (OpenSpec.ofChange boundSmallSpec)

/-- ITS FALSE NEIGHBOUR: 'it returns false'. Refute it at one input. -/
def boundSmallWrong : ChangeSpec := { name := "boundSmall", fn := fun _ => fun
  | [d] => { results := [.lit (.bool false)], args := [d] }
  | _ => none }
def BoundSmallWrongFalsely : Prop := boundSmallRow.holds Try.pinned (OpenSpec.ofChange boundSmallWrong)

/-- 'countermandlaw27.BoundMost': WHATEVER THE INPUT: true; the input reads as it did. -/
def boundMostSpec : ChangeSpec := { name := "boundMost", fn := fun _ => fun
  | [d] => { results := [.lit (.bool true)], args := [d] }
  | _ => none }
def boundMostRow : OpenClaim := { program := "ytolchnaegifckaa", sum := "85f5b960c66cd58b26ad7ebfae68cd45520715f6fad0612b8bdc14a98752d06b", func := "countermand/countermandlaw27.BoundMost", spec := "boundMost", apart := false }
def BoundMostSaid : Prop := boundMostRow.holds Try.pinned (OpenSpec.ofChange boundMostSpec)

/-- ITS FALSE NEIGHBOUR: 'it returns false'. Refute it at one input. -/
def boundMostWrong : ChangeSpec := { name := "boundMost", fn := fun _ => fun
  | [d] => { results := [.lit (.bool false)], args := [d] }
  | _ => none }
def BoundMostWrongFalsely : Prop := boundMostRow.holds Try.pinned (OpenSpec.ofChange boundMostWrong)

/-- 'countermandlaw27.BoundReach': WHATEVER THE INPUT: true; the input reads as it did. -/
def boundReachSpec : ChangeSpec := { name := "boundReach", fn := fun _ => fun
  | [d1, d2, d3] => { results := [.lit (.bool true)], args := [d1, d2, d3] }
  | _ => none }
def boundReachRow : OpenClaim := { program := "ytolchnaegifckaa", sum := "85f5b960c66cd58b26ad7ebfae68cd45520715f6fad0612b8bdc14a98752d06b", func := "countermand/countermandlaw27.BoundReach", spec := "boundReach", unfollowed := true, recurses := true, apart := false }
def BoundReachSaid : Prop := boundReachRow.holds Try.pinned (OpenSpec.ofChange boundReachSpec)

/-- ITS FALSE NEIGHBOUR: 'it returns false'. Refute it at one input. -/
def boundReachWrong : ChangeSpec := { name := "boundReach", fn := fun _ => fun
  | [d1, d2, d3] => { results := [.lit (.bool false)], args := [d1, d2, d3] }
  | _ => none }
def BoundReachWrongFalsely : Prop := boundReachRow.holds Try.pinned (OpenSpec.ofChange boundReachWrong)

/-- 'countermandlaw27.BoundOn': WHATEVER THE INPUT: true; the input reads as it did. -/
def boundOnSpec : ChangeSpec := { name := "boundOn", fn := fun _ => fun
  | [d1, d2] => { results := [.lit (.bool true)], args := [d1, d2] }
  | _ => none }
def boundOnRow : OpenClaim := { program := "ytolchnaegifckaa", sum := "85f5b960c66cd58b26ad7ebfae68cd45520715f6fad0612b8bdc14a98752d06b", func := "countermand/countermandlaw27.BoundOn", spec := "boundOn", unfollowed := true, recurses := true, apart := false }
def BoundOnSaid : Prop := boundOnRow.holds Try.pinned (OpenSpec.ofChange boundOnSpec)

/-- ITS FALSE NEIGHBOUR: 'it returns false'. Refute it at one input. -/
def boundOnWrong : ChangeSpec := { name := "boundOn", fn := fun _ => fun
  | [d1, d2] => { results := [.lit (.bool false)], args := [d1, d2] }
  | _ => none }
def BoundOnWrongFalsely : Prop := boundOnRow.holds Try.pinned (OpenSpec.ofChange boundOnWrong)

/-- 'countermandlaw29.TrimOnce': WHATEVER THE INPUT: true; the input reads as it did. -/
def trimOnceSpec : ChangeSpec := { name := "trimOnce", fn := fun _ => fun
  | [d] => { results := [.lit (.bool true)], args := [d] }
  | _ => none }
def trimOnceRow : OpenClaim := { program := "ytolchnaegifckaa", sum := "85f5b960c66cd58b26ad7ebfae68cd45520715f6fad0612b8bdc14a98752d06b", func := "countermand/countermandlaw29.TrimOnce", spec := "trimOnce", recurses := true, apart := false }
def TrimOnceSaid : Prop := trimOnceRow.holds Try.pinned (OpenSpec.ofChange trimOnceSpec)

/-- ITS FALSE NEIGHBOUR: 'it returns false'. Refute it at one input. -/
def trimOnceWrong : ChangeSpec := { name := "trimOnce", fn := fun _ => fun
  | [d] => { results := [.lit (.bool false)], args := [d] }
  | _ => none }
def TrimOnceWrongFalsely : Prop := trimOnceRow.holds Try.pinned (OpenSpec.ofChange trimOnceWrong)

/-- 'countermandlaw29.TrimModel': WHATEVER THE INPUT: true; the input reads as it did. -/
def trimModelSpec : ChangeSpec := { name := "trimModel", fn := fun _ => fun
  | [d1, d2, d3, d4] => { results := [.lit (.bool true)], args := [d1, d2, d3, d4] }
  | _ => none }
def trimModelRow : OpenClaim := { program := "ytolchnaegifckaa", sum := "85f5b960c66cd58b26ad7ebfae68cd45520715f6fad0612b8bdc14a98752d06b", func := "countermand/countermandlaw29.TrimModel", spec := "trimModel", apart := false }
def TrimModelSaid : Prop := trimModelRow.holds Try.pinned (OpenSpec.ofChange trimModelSpec)

/-- ITS FALSE NEIGHBOUR: 'it returns false'. Refute it at one input. -/
def trimModelWrong : ChangeSpec := { name := "trimModel", fn := fun _ => fun
  | [d1, d2, d3, d4] => { results := [.lit (.bool false)], args := [d1, d2, d3, d4] }
  | _ => none }
def TrimModelWrongFalsely : Prop := trimModelRow.holds Try.pinned (OpenSpec.ofChange trimModelWrong)

/-- 'countermandlaw29.TrimIdle': WHATEVER THE INPUT: true; the input reads as it did. -/
def trimIdleSpec : ChangeSpec := { name := "trimIdle", fn := fun _ => fun
  | [d1, d2, d3] => { results := [.lit (.bool true)], args := [d1, d2, d3] }
  | _ => none }
def trimIdleRow : OpenClaim := { program := "ytolchnaegifckaa", sum := "85f5b960c66cd58b26ad7ebfae68cd45520715f6fad0612b8bdc14a98752d06b", func := "countermand/countermandlaw29.TrimIdle", spec := "trimIdle", unfollowed := true, recurses := true, apart := false }
def TrimIdleSaid : Prop := trimIdleRow.holds Try.pinned (OpenSpec.ofChange trimIdleSpec)

/-- ITS FALSE NEIGHBOUR: 'it returns false'. Refute it at one input. -/
def trimIdleWrong : ChangeSpec := { name := "trimIdle", fn := fun _ => fun
  | [d1, d2, d3] => { results := [.lit (.bool false)], args := [d1, d2, d3] }
  | _ => none }
def TrimIdleWrongFalsely : Prop := trimIdleRow.holds Try.pinned (OpenSpec.ofChange trimIdleWrong)

/-- 'countermandlaw29.TrimKeeps': WHATEVER THE INPUT: true; the input reads as it did. -/
def trimKeepsSpec : ChangeSpec := { name := "trimKeeps", fn := fun _ => fun
  | [d] => { results := [.lit (.bool true)], args := [d] }
  | _ => none }
def trimKeepsRow : OpenClaim := { program := "ytolchnaegifckaa", sum := "85f5b960c66cd58b26ad7ebfae68cd45520715f6fad0612b8bdc14a98752d06b", func := "countermand/countermandlaw29.TrimKeeps", spec := "trimKeeps", unfollowed := true, recurses := true, apart := false }
def TrimKeepsSaid : Prop := trimKeepsRow.holds Try.pinned (OpenSpec.ofChange trimKeepsSpec)

/-- ITS FALSE NEIGHBOUR: 'it returns false'. Refute it at one input. -/
def trimKeepsWrong : ChangeSpec := { name := "trimKeeps", fn := fun _ => fun
  | [d] => { results := [.lit (.bool false)], args := [d] }
  | _ => none }
def TrimKeepsWrongFalsely : Prop := trimKeepsRow.holds Try.pinned (OpenSpec.ofChange trimKeepsWrong)

/-- 'countermandlaw29.TrimBound': WHATEVER THE INPUT: true; the input reads as it did. -/
def trimBoundSpec : ChangeSpec := { name := "trimBound", fn := fun _ => fun
  | [d] => { results := [.lit (.bool true)], args := [d] }
  | _ => none }
def trimBoundRow : OpenClaim := { program := "ytolchnaegifckaa", sum := "85f5b960c66cd58b26ad7ebfae68cd45520715f6fad0612b8bdc14a98752d06b", func := "countermand/countermandlaw29.TrimBound", spec := "trimBound", unfollowed := true, recurses := true, apart := false }
def TrimBoundSaid : Prop := trimBoundRow.holds Try.pinned (OpenSpec.ofChange trimBoundSpec)

/-- ITS FALSE NEIGHBOUR: 'it returns false'. Refute it at one input. -/
def trimBoundWrong : ChangeSpec := { name := "trimBound", fn := fun _ => fun
  | [d] => { results := [.lit (.bool false)], args := [d] }
  | _ => none }
def TrimBoundWrongFalsely : Prop := trimBoundRow.holds Try.pinned (OpenSpec.ofChange trimBoundWrong)

/- THE SECOND FORM. 'bulk': how many values and letters a reading holds, each counted each time it is reached (what is shared counts as often as it is met; a slice's spare places count too). A statement '..UptoSaid' is the law's where the arguments, and the package variables that the reading takes, are together of bulk at most 1048576: NARROWER than '..Said'. Prove '..Said' where nothing that the law and all that it calls make is longer than what came in: it says more and counts as full. Else prove '..UptoSaid'. A law counts once. -/
mutual
def uptoBulk {H : Type} : DataW H → Nat
  | .lit (.string bytes) => bytes.length + 1
  | .lit _ => 1
  | .nil => 1
  | .ptr d => uptoBulk d + 1
  | .slice elems spare => uptoBulkAll elems + uptoBulkAll spare + 1
  | .agg parts => uptoBulkAll parts + 1
  | .iface _ d => uptoBulk d + 1
  | .map entries => uptoBulkEntries entries + 1
  | .held _ => 1
def uptoBulkAll {H : Type} : List (DataW H) → Nat
  | [] => 0
  | d :: r => uptoBulk d + uptoBulkAll r
def uptoBulkEntries {H : Type} : List (Lit × DataW H) → Nat
  | [] => 0
  | x :: r => uptoBulkEntry x + uptoBulkEntries r
def uptoBulkEntry {H : Type} : Lit × DataW H → Nat
  | (.string bytes, d) => bytes.length + uptoBulk d + 1
  | (_, d) => uptoBulk d + 1
 end
def uptoSmall : (H : Type) → List (DataW H) → Bool := fun _ ds => decide (uptoBulkAll ds ≤ 1048576)
def OpenSpec.upto (s : _root_.Go.ChangeSpec) : _root_.Go.OpenSpec := { _root_.Go.OpenSpec.ofChange s with cond := some uptoSmall }

/-- 'countermandlaw27.BoundBlocks', WHERE WHAT IT READS IS OF BULK AT MOST 1048576: true; the input reads as it did. -/
def boundBlocksUptoRow : OpenClaim := { program := "ytolchnaegifckaa", sum := "85f5b960c66cd58b26ad7ebfae68cd45520715f6fad0612b8bdc14a98752d06b", func := "countermand/countermandlaw27.BoundBlocks", spec := "boundBlocks", apart := false, narrowed := true }
def BoundBlocksUptoSaid : Prop := boundBlocksUptoRow.holds Try.pinned (OpenSpec.upto boundBlocksSpec)

/-- 'countermandlaw27.BoundNext', WHERE WHAT IT READS IS OF BULK AT MOST 1048576: true; the input reads as it did. -/
def boundNextUptoRow : OpenClaim := { program := "ytolchnaegifckaa", sum := "85f5b960c66cd58b26ad7ebfae68cd45520715f6fad0612b8bdc14a98752d06b", func := "countermand/countermandlaw27.BoundNext", spec := "boundNext", apart := false, narrowed := true }
def BoundNextUptoSaid : Prop := boundNextUptoRow.holds Try.pinned (OpenSpec.upto boundNextSpec)

/-- 'countermandlaw27.BoundSmall', WHERE WHAT IT READS IS OF BULK AT MOST 1048576: true; the input reads as it did. -/
def boundSmallUptoRow : OpenClaim := { program := "ytolchnaegifckaa", sum := "85f5b960c66cd58b26ad7ebfae68cd45520715f6fad0612b8bdc14a98752d06b", func := "countermand/countermandlaw27.BoundSmall", spec := "boundSmall", apart := false, narrowed := true }
def BoundSmallUptoSaid : Prop := boundSmallUptoRow.holds Try.pinned (OpenSpec.upto boundSmallSpec)

/-- 'countermandlaw27.BoundMost', WHERE WHAT IT READS IS OF BULK AT MOST 1048576: true; the input reads as it did. -/
def boundMostUptoRow : OpenClaim := { program := "ytolchnaegifckaa", sum := "85f5b960c66cd58b26ad7ebfae68cd45520715f6fad0612b8bdc14a98752d06b", func := "countermand/countermandlaw27.BoundMost", spec := "boundMost", apart := false, narrowed := true }
def BoundMostUptoSaid : Prop := boundMostUptoRow.holds Try.pinned (OpenSpec.upto boundMostSpec)

/-- 'countermandlaw27.BoundReach', WHERE WHAT IT READS IS OF BULK AT MOST 1048576: true; the input reads as it did. -/
def boundReachUptoRow : OpenClaim := { program := "ytolchnaegifckaa", sum := "85f5b960c66cd58b26ad7ebfae68cd45520715f6fad0612b8bdc14a98752d06b", func := "countermand/countermandlaw27.BoundReach", spec := "boundReach", unfollowed := true, recurses := true, apart := false, narrowed := true }
def BoundReachUptoSaid : Prop := boundReachUptoRow.holds Try.pinned (OpenSpec.upto boundReachSpec)

/-- 'countermandlaw27.BoundOn', WHERE WHAT IT READS IS OF BULK AT MOST 1048576: true; the input reads as it did. -/
def boundOnUptoRow : OpenClaim := { program := "ytolchnaegifckaa", sum := "85f5b960c66cd58b26ad7ebfae68cd45520715f6fad0612b8bdc14a98752d06b", func := "countermand/countermandlaw27.BoundOn", spec := "boundOn", unfollowed := true, recurses := true, apart := false, narrowed := true }
def BoundOnUptoSaid : Prop := boundOnUptoRow.holds Try.pinned (OpenSpec.upto boundOnSpec)

/-- 'countermandlaw29.TrimOnce', WHERE WHAT IT READS IS OF BULK AT MOST 1048576: true; the input reads as it did. -/
def trimOnceUptoRow : OpenClaim := { program := "ytolchnaegifckaa", sum := "85f5b960c66cd58b26ad7ebfae68cd45520715f6fad0612b8bdc14a98752d06b", func := "countermand/countermandlaw29.TrimOnce", spec := "trimOnce", recurses := true, apart := false, narrowed := true }
def TrimOnceUptoSaid : Prop := trimOnceUptoRow.holds Try.pinned (OpenSpec.upto trimOnceSpec)

/-- 'countermandlaw29.TrimModel', WHERE WHAT IT READS IS OF BULK AT MOST 1048576: true; the input reads as it did. -/
def trimModelUptoRow : OpenClaim := { program := "ytolchnaegifckaa", sum := "85f5b960c66cd58b26ad7ebfae68cd45520715f6fad0612b8bdc14a98752d06b", func := "countermand/countermandlaw29.TrimModel", spec := "trimModel", apart := false, narrowed := true }
def TrimModelUptoSaid : Prop := trimModelUptoRow.holds Try.pinned (OpenSpec.upto trimModelSpec)

/-- 'countermandlaw29.TrimIdle', WHERE WHAT IT READS IS OF BULK AT MOST 1048576: true; the input reads as it did. -/
def trimIdleUptoRow : OpenClaim := { program := "ytolchnaegifckaa", sum := "85f5b960c66cd58b26ad7ebfae68cd45520715f6fad0612b8bdc14a98752d06b", func := "countermand/countermandlaw29.TrimIdle", spec := "trimIdle", unfollowed := true, recurses := true, apart := false, narrowed := true }
def TrimIdleUptoSaid : Prop := trimIdleUptoRow.holds Try.pinned (OpenSpec.upto trimIdleSpec)

/-- 'countermandlaw29.TrimKeeps', WHERE WHAT IT READS IS OF BULK AT MOST 1048576: true; the input reads as it did. -/
def trimKeepsUptoRow : OpenClaim := { program := "ytolchnaegifckaa", sum := "85f5b960c66cd58b26ad7ebfae68cd45520715f6fad0612b8bdc14a98752d06b", func := "countermand/countermandlaw29.TrimKeeps", spec := "trimKeeps", unfollowed := true, recurses := true, apart := false, narrowed := true }
def TrimKeepsUptoSaid : Prop := trimKeepsUptoRow.holds Try.pinned (OpenSpec.upto trimKeepsSpec)

/-- 'countermandlaw29.TrimBound', WHERE WHAT IT READS IS OF BULK AT MOST 1048576: true; the input reads as it did. -/
def trimBoundUptoRow : OpenClaim := { program := "ytolchnaegifckaa", sum := "85f5b960c66cd58b26ad7ebfae68cd45520715f6fad0612b8bdc14a98752d06b", func := "countermand/countermandlaw29.TrimBound", spec := "trimBound", unfollowed := true, recurses := true, apart := false, narrowed := true }
def TrimBoundUptoSaid : Prop := trimBoundUptoRow.holds Try.pinned (OpenSpec.upto trimBoundSpec)

end Rows
end Go.Proofs.Ytolchnaegifckaa
