/- Lemmas for the row. Conditions: none. -/
import Derived.Test.YtbphjihgbenkdaaGreatHQ5i
import Derived.Test.YtbphjihgbenkdaaGreatChecked
import Derived.KernelRfl
namespace Go.Proofs.YtbphjihgbenkdaaGreat.HQ
set_option linter.unusedVariables false
set_option linter.unusedSectionVars false
set_option linter.unusedSimpArgs false
open Go Go.Proofs
abbrev noG : Nat → Option Nat := fun _ => none
theorem mixed : Tryz.prog.follows .mixedOrders = true := by kernel_rfl
end Go.Proofs.YtbphjihgbenkdaaGreat.HQ
