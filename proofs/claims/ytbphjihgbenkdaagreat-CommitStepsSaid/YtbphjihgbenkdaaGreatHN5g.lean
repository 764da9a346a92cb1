/- The seat's variables and its way of drawing. Conditions: none. -/
import Derived.Test.YtbphjihgbenkdaaGreatHN5i
import Derived.Test.YtbphjihgbenkdaaGreatChecked
import Derived.KernelRfl
namespace Go.Proofs.YtbphjihgbenkdaaGreat.HN
open Go Go.Proofs
abbrev noG : Nat → Option Nat := fun _ => none
theorem mixed : Tryz.prog.follows .mixedOrders = true := by kernel_rfl
end Go.Proofs.YtbphjihgbenkdaaGreat.HN
