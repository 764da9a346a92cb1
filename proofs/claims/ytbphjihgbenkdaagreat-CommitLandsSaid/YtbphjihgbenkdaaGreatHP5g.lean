/- Lemmas for the row. Conditions: none. -/
import Derived.Test.YtbphjihgbenkdaaGreatHP5i
import Derived.Test.YtbphjihgbenkdaaGreatChecked
import Derived.KernelRfl
namespace Go.Proofs.YtbphjihgbenkdaaGreat.HP
open Go Go.Proofs
abbrev noG : Nat → Option Nat := fun _ => none
theorem mixed : Tryz.prog.follows .mixedOrders = true := by kernel_rfl
end Go.Proofs.YtbphjihgbenkdaaGreat.HP
