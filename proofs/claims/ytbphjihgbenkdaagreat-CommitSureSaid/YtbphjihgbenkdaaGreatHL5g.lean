/- The seat's variables and its way of drawing. Conditions: none. -/
import Derived.Test.YtbphjihgbenkdaaGreatHL5i
import Derived.Test.YtbphjihgbenkdaaGreatChecked
import Derived.KernelRfl
namespace Go.Proofs.YtbphjihgbenkdaaGreat.HL
open Go Go.Proofs
/-- the variables' objects -/
abbrev noG : Nat → Option Nat := fun _ => none
theorem mixed : Tryz.prog.follows .mixedOrders = true := by kernel_rfl
end Go.Proofs.YtbphjihgbenkdaaGreat.HL
