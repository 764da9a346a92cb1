/- A round of a loop over a function, by its text. Conditions: what is called is told by its text (EnvOk); mixedOrders. -/
import Derived.Test.YtolchnaegifckaaHRS
namespace Go.Proofs.Ytolchnaegifckaa.HR
open Go
set_option linter.unusedSectionVars false
variable [Sites]

def emp {α : Type} (l : List α) : Bool := match l with
  | [] => true
  | _ => false
theorem emp_nil {α : Type} {l : List α} (h : emp l = true) : l = [] := by
  cases l with
  | nil => rfl
  | cons x l => cases h
section
variable {E : Env} {P : Program} {I : Inj} {H H' : Heap} {w : World} {n : Nat} {rv : HV}

end
end Go.Proofs.Ytolchnaegifckaa.HR
