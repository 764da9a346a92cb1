/- Functions as values, and what loops over functions hand to them. Conditions: none (lemmas). -/
import Derived.Test.YtolchnaegifckaaHRSr
import Derived.Test.YtolchnaegifckaaHRZa
namespace Go.Proofs.Ytolchnaegifckaa.HR
open Go
set_option linter.unusedSectionVars false
/-- the loops of a function. -/
def sitesF (f : Func) (an : Ann) : List (Nat × Site) := match f.body with
  | some c => (sites c an).map fun s => (f.ntmps, s)
  | none => []
def siteIn (l : List (Nat × Site)) (k sz : Nat) (ps : Array Tmp) (a b : Code) : Prop := ∃ e ∈ l, e.2.k = k ∧ e.1 ≤ sz ∧ e.2.ps = ps ∧ e.2.a = a ∧ e.2.b = b

variable [Sites]
section
variable {P : Program} {gl : Nat → Option Nat}
theorem hst_none {fn : Func} {an : Ann} (h : emp (sitesF fn an) = true) : ∀ c, fn.body = some c → ∀ s ∈ sites c an, ∀ m, fn.ntmps ≤ m → Sites.ok s.k 0 m s.ps s.a s.b := by
  intro c hc s hs m hm
  have := emp_nil h
  unfold sitesF at this
  rw [hc] at this
  rw [List.map_eq_nil_iff.1 this] at hs
  cases hs
end
end Go.Proofs.Ytolchnaegifckaa.HR
