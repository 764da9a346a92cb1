/- The seat's variables and its way of drawing. Conditions: none. -/
import Derived.Test.YtmfmcegpoiinjaaDoorHMLb
import Derived.Test.YtmfmcegpoiinjaaDoorChecked
import Derived.KernelRfl
namespace Go.Proofs.YtmfmcegpoiinjaaDoor.HM
open Go Go.Proofs
/-- the variables' objects -/
abbrev noG : Nat → Option Nat := lkG [(2, 0), (3, 1), (8, 2), (9, 3), (1, 4), (0, 5)]
theorem mixed : Tryd.prog.follows .mixedOrders = true := by kernel_rfl
end Go.Proofs.YtmfmcegpoiinjaaDoor.HM
