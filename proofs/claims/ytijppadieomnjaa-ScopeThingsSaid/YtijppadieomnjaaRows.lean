/-
  No cell of these rows narrows 'for every input' (looked for: loops, veiled, ifaces, maps, wideKeys, modest, calm, conditions, laid).
  DERIVED. THE GIVEN ROWS OF THIS SEAT. 6 by the template 'for every input the law returns true; each argument reads behind the call as it read before'; 0 by the template 'total and deterministic' (their statements: YtijppadieomnjaaTotals.lean).
  GIVEN WITH THE SEED: the statements are not yours to turn. If you find one false, say at which input.
  Laid BY PROGRAM, IN A SANDBOX (cutbox-rows.mjs): the forced cells as the released guide's own fill.sh prints them over the translation 9edf2f2851c8a5e5… (all of the seat's roots in one cut). By AI agents, Wed Nov 11 2026. No macro, syntax, notation, axiom, sorry.
-/
import Derived.Test.YtijppadieomnjaaChecked
import GoSem.Claim
import GoSem.ClaimJoined
import GoSem.ClaimMapViews
import Derived.JoinedTies
import Derived.KernelRfl
namespace Go.Proofs.Ytijppadieomnjaa
/- THE CELL 'sum', in the pinned program and in every row, IS THE sha256 OF THE DUMP (.gsa) THAT YtijppadieomnjaaProg.lean LOADS. Nothing in Lean hashes anything: it is a label: what it is worth is what the hold of that sum in a sandbox is worth. -/
noncomputable def Try.pinned : Pinned := { name := "ytijppadieomnjaa", sum := "9edf2f2851c8a5e5bb0cdd555ab5c469b4ea069ca08186690e2548e66a39f75c", checked := Try.checked }
namespace Rows
def none {H : Type} : Left H := { results := [], args := [] }

/-- 'countermandlaw28.ScopeOf': WHATEVER THE INPUT: true; the input reads as it did. -/
def scopeOfSpec : ChangeSpec := { name := "scopeOf", fn := fun _ => fun
  | [d1, d2] => { results := [.lit (.bool true)], args := [d1, d2] }
  | _ => none }
def scopeOfRow : OpenClaim := { program := "ytijppadieomnjaa", sum := "9edf2f2851c8a5e5bb0cdd555ab5c469b4ea069ca08186690e2548e66a39f75c", func := "countermand/countermandlaw28.ScopeOf", spec := "scopeOf", unfollowed := true, recurses := true, apart := false }
def ScopeOfSaid : Prop := scopeOfRow.holds Try.pinned (OpenSpec.ofChange scopeOfSpec)

/-- ITS FALSE NEIGHBOUR: 'it returns false'. Refute it at one input. -/
def scopeOfWrong : ChangeSpec := { name := "scopeOf", fn := fun _ => fun
  | [d1, d2] => { results := [.lit (.bool false)], args := [d1, d2] }
  | _ => none }
def ScopeOfWrongFalsely : Prop := scopeOfRow.holds Try.pinned (OpenSpec.ofChange scopeOfWrong)

/-- 'countermandlaw28.ScopeModel': WHATEVER THE INPUT: true; the input reads as it did. -/
def scopeModelSpec : ChangeSpec := { name := "scopeModel", fn := fun _ => fun
  | [d1, d2, d3, d4, d5, d6] => { results := [.lit (.bool true)], args := [d1, d2, d3, d4, d5, d6] }
  | _ => none }
def scopeModelRow : OpenClaim := { program := "ytijppadieomnjaa", sum := "9edf2f2851c8a5e5bb0cdd555ab5c469b4ea069ca08186690e2548e66a39f75c", func := "countermand/countermandlaw28.ScopeModel", spec := "scopeModel", unfollowed := true, recurses := true, apart := false }
def ScopeModelSaid : Prop := scopeModelRow.holds Try.pinned (OpenSpec.ofChange scopeModelSpec)

/-- ITS FALSE NEIGHBOUR: 'it returns false'. Refute it at one input. -/
def scopeModelWrong : ChangeSpec := { name := "scopeModel", fn := fun _ => fun
  | [d1, d2, d3, d4, d5, d6] => { results := [.lit (.bool false)], args := [d1, d2, d3, d4, d5, d6] }
  | _ => none }
def ScopeModelWrongFalsely : Prop := scopeModelRow.holds Try.pinned (OpenSpec.ofChange scopeModelWrong)

/-- 'countermandlaw28.ScopeAll': WHATEVER THE INPUT: true; the input reads as it did. -/
def scopeAllSpec : ChangeSpec := { name := "scopeAll", fn := fun _ => fun
  | [d1, d2] => { results := [.lit (.bool true)], args := [d1, d2] }
  | _ => none }
def scopeAllRow : OpenClaim := { program := "ytijppadieomnjaa", sum := "9edf2f2851c8a5e5bb0cdd555ab5c469b4ea069ca08186690e2548e66a39f75c", func := "countermand/countermandlaw28.ScopeAll", spec := "scopeAll", unfollowed := true, recurses := true, apart := false }
def ScopeAllSaid : Prop := scopeAllRow.holds Try.pinned (OpenSpec.ofChange scopeAllSpec)

/-- ITS FALSE NEIGHBOUR: 'it returns false'. Refute it at one input. -/
def scopeAllWrong : ChangeSpec := { name := "scopeAll", fn := fun _ => fun
  | [d1, d2] => { results := [.lit (.bool false)], args := [d1, d2] }
  | _ => none }
def ScopeAllWrongFalsely : Prop := scopeAllRow.holds Try.pinned (OpenSpec.ofChange scopeAllWrong)

/-- 'countermandlaw28.ScopeCommutes': WHATEVER THE INPUT: true; the input reads as it did. -/
def scopeCommutesSpec : ChangeSpec := { name := "scopeCommutes", fn := fun _ => fun
  | [d1, d2, d3, d4, d5] => { results := [.lit (.bool true)], args := [d1, d2, d3, d4, d5] }
  | _ => none }
def scopeCommutesRow : OpenClaim := { program := "ytijppadieomnjaa", sum := "9edf2f2851c8a5e5bb0cdd555ab5c469b4ea069ca08186690e2548e66a39f75c", func := "countermand/countermandlaw28.ScopeCommutes", spec := "scopeCommutes", unfollowed := true, recurses := true, apart := false }
def ScopeCommutesSaid : Prop := scopeCommutesRow.holds Try.pinned (OpenSpec.ofChange scopeCommutesSpec)

/-- ITS FALSE NEIGHBOUR: 'it returns false'. Refute it at one input. -/
def scopeCommutesWrong : ChangeSpec := { name := "scopeCommutes", fn := fun _ => fun
  | [d1, d2, d3, d4, d5] => { results := [.lit (.bool false)], args := [d1, d2, d3, d4, d5] }
  | _ => none }
def ScopeCommutesWrongFalsely : Prop := scopeCommutesRow.holds Try.pinned (OpenSpec.ofChange scopeCommutesWrong)

/-- 'countermandlaw28.ScopeThings': WHATEVER THE INPUT: true; the input reads as it did. -/
def scopeThingsSpec : ChangeSpec := { name := "scopeThings", fn := fun _ => fun
  | [d1, d2, d3, d4, d5] => { results := [.lit (.bool true)], args := [d1, d2, d3, d4, d5] }
  | _ => none }
def scopeThingsRow : OpenClaim := { program := "ytijppadieomnjaa", sum := "9edf2f2851c8a5e5bb0cdd555ab5c469b4ea069ca08186690e2548e66a39f75c", func := "countermand/countermandlaw28.ScopeThings", spec := "scopeThings", unfollowed := true, recurses := true, apart := false }
def ScopeThingsSaid : Prop := scopeThingsRow.holds Try.pinned (OpenSpec.ofChange scopeThingsSpec)

/-- ITS FALSE NEIGHBOUR: 'it returns false'. Refute it at one input. -/
def scopeThingsWrong : ChangeSpec := { name := "scopeThings", fn := fun _ => fun
  | [d1, d2, d3, d4, d5] => { results := [.lit (.bool false)], args := [d1, d2, d3, d4, d5] }
  | _ => none }
def ScopeThingsWrongFalsely : Prop := scopeThingsRow.holds Try.pinned (OpenSpec.ofChange scopeThingsWrong)

/-- 'countermandlaw28.ScopeClash': WHATEVER THE INPUT: true; the input reads as it did. -/
def scopeClashSpec : ChangeSpec := { name := "scopeClash", fn := fun _ => fun
  | [d1, d2, d3, d4] => { results := [.lit (.bool true)], args := [d1, d2, d3, d4] }
  | _ => none }
def scopeClashRow : OpenClaim := { program := "ytijppadieomnjaa", sum := "9edf2f2851c8a5e5bb0cdd555ab5c469b4ea069ca08186690e2548e66a39f75c", func := "countermand/countermandlaw28.ScopeClash", spec := "scopeClash", unfollowed := true, recurses := true, apart := false }
def ScopeClashSaid : Prop := scopeClashRow.holds Try.pinned (OpenSpec.ofChange scopeClashSpec)

/-- ITS FALSE NEIGHBOUR: 'it returns false'. Refute it at one input. -/
def scopeClashWrong : ChangeSpec := { name := "scopeClash", fn := fun _ => fun
  | [d1, d2, d3, d4] => { results := [.lit (.bool false)], args := [d1, d2, d3, d4] }
  | _ => none }
def ScopeClashWrongFalsely : Prop := scopeClashRow.holds Try.pinned (OpenSpec.ofChange scopeClashWrong)

/- THE SECOND FORM. 'bulk': how many values and letters a reading holds, each counted each time it is reached (what is shared counts as often as it is met; a slice's spare places count too). A statement '..UptoSaid' is the law's where the arguments, and the package variables that the reading takes, are together of bulk at most 1048576: NARROWER than '..Said'. Prove '..Said' where nothing that the law and all that it calls make is longer than what came in: it says more and counts as full. Else prove '..UptoSaid'. A law counts once. -/
mutual
def uptoBulk {H : Type} : DataW H → Nat
  | .lit (.string bytes) => bytes.length + 1
  | .lit _ => 1
  | .nil => 1
  | .ptr d => uptoBulk d + 1
  | .slice elems spare => uptoBulkAll elems + uptoBulkAll spare + 1
  | .agg parts => uptoBulkAll parts + 1
  | .iface _ d => uptoBulk d + 1
  | .map entries => uptoBulkEntries entries + 1
  | .held _ => 1
def uptoBulkAll {H : Type} : List (DataW H) → Nat
  | [] => 0
  | d :: r => uptoBulk d + uptoBulkAll r
def uptoBulkEntries {H : Type} : List (Lit × DataW H) → Nat
  | [] => 0
  | x :: r => uptoBulkEntry x + uptoBulkEntries r
def uptoBulkEntry {H : Type} : Lit × DataW H → Nat
  | (.string bytes, d) => bytes.length + uptoBulk d + 1
  | (_, d) => uptoBulk d + 1
 end
def uptoSmall : (H : Type) → List (DataW H) → Bool := fun _ ds => decide (uptoBulkAll ds ≤ 1048576)
def OpenSpec.upto (s : _root_.Go.ChangeSpec) : _root_.Go.OpenSpec := { _root_.Go.OpenSpec.ofChange s with cond := some uptoSmall }

/-- 'countermandlaw28.ScopeOf', WHERE WHAT IT READS IS OF BULK AT MOST 1048576: true; the input reads as it did. -/
def scopeOfUptoRow : OpenClaim := { program := "ytijppadieomnjaa", sum := "9edf2f2851c8a5e5bb0cdd555ab5c469b4ea069ca08186690e2548e66a39f75c", func := "countermand/countermandlaw28.ScopeOf", spec := "scopeOf", unfollowed := true, recurses := true, apart := false, narrowed := true }
def ScopeOfUptoSaid : Prop := scopeOfUptoRow.holds Try.pinned (OpenSpec.upto scopeOfSpec)

/-- 'countermandlaw28.ScopeModel', WHERE WHAT IT READS IS OF BULK AT MOST 1048576: true; the input reads as it did. -/
def scopeModelUptoRow : OpenClaim := { program := "ytijppadieomnjaa", sum := "9edf2f2851c8a5e5bb0cdd555ab5c469b4ea069ca08186690e2548e66a39f75c", func := "countermand/countermandlaw28.ScopeModel", spec := "scopeModel", unfollowed := true, recurses := true, apart := false, narrowed := true }
def ScopeModelUptoSaid : Prop := scopeModelUptoRow.holds Try.pinned (OpenSpec.upto scopeModelSpec)

/-- 'countermandlaw28.ScopeAll', WHERE WHAT IT READS IS OF BULK AT MOST 1048576: true; the input reads as it did. -/
def scopeAllUptoRow : OpenClaim := { program := "ytijppadieomnjaa", sum := "9edf2f2851c8a5e5bb0cdd555ab5c469b4ea069ca08186690e2548e66a39f75c", func := "countermand/countermandlaw28.ScopeAll", spec := "scopeAll", unfollowed := true, recurses := true, apart := false, narrowed := true }
def ScopeAllUptoSaid : Prop := scopeAllUptoRow.holds Try.pinned (OpenSpec.upto scopeAllSpec)

/-- 'countermandlaw28.ScopeCommutes', WHERE WHAT IT READS IS OF BULK AT MOST 1048576: true; the input reads as it did. -/
def scopeCommutesUptoRow : OpenClaim := { program := "ytijppadieomnjaa", sum := "9edf2f2851c8a5e5bb0cdd555ab5c469b4ea069ca08186690e2548e66a39f75c", func := "countermand/countermandlaw28.ScopeCommutes", spec := "scopeCommutes", unfollowed := true, recurses := true, apart := false, narrowed := true }
def ScopeCommutesUptoSaid : Prop := scopeCommutesUptoRow.holds Try.pinned (OpenSpec.upto scopeCommutesSpec)

/-- 'countermandlaw28.ScopeThings', WHERE WHAT IT READS IS OF BULK AT MOST 1048576: true; the input reads as it did. -/
def scopeThingsUptoRow : OpenClaim := { program := "ytijppadieomnjaa", sum := "9edf2f2851c8a5e5bb0cdd555ab5c469b4ea069ca08186690e2548e66a39f75c", func := "countermand/countermandlaw28.ScopeThings", spec := "scopeThings", unfollowed := true, recurses := true, apart := false, narrowed := true }
def ScopeThingsUptoSaid : Prop := scopeThingsUptoRow.holds Try.pinned (OpenSpec.upto scopeThingsSpec)

/-- 'countermandlaw28.ScopeClash', WHERE WHAT IT READS IS OF BULK AT MOST 1048576: true; the input reads as it did. -/
def scopeClashUptoRow : OpenClaim := { program := "ytijppadieomnjaa", sum := "9edf2f2851c8a5e5bb0cdd555ab5c469b4ea069ca08186690e2548e66a39f75c", func := "countermand/countermandlaw28.ScopeClash", spec := "scopeClash", unfollowed := true, recurses := true, apart := false, narrowed := true }
def ScopeClashUptoSaid : Prop := scopeClashUptoRow.holds Try.pinned (OpenSpec.upto scopeClashSpec)

end Rows
end Go.Proofs.Ytijppadieomnjaa
