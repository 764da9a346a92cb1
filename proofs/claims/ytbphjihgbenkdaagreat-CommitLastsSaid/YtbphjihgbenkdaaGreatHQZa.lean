/- Lemmas for the row. Conditions: none. -/
import Derived.Test.YtbphjihgbenkdaaGreatHQZt
namespace Go.Proofs.YtbphjihgbenkdaaGreat.HQ
set_option linter.unusedVariables false
set_option linter.unusedSectionVars false
set_option linter.unusedSimpArgs false
open Go
set_option linter.unusedSectionVars false
variable [Sites]
def lk : List (Nat × (List HV → M HV)) → Nat → Option (List HV → M HV)
 | [], _ => none
 | (i, g) :: r, f => match Nat.beq f i with
  | true => some g
  | false => lk r f
section
variable {P : Program} {gl : Nat → Option Nat}
theorem lk_nil : ∀ f h, lk [] f = some h → FnOk P gl f h := fun _ _ h => by cases h
theorem lk_cons {i : Nat} {g : List HV → M HV} {r : List (Nat × (List HV → M HV))} (hg : FnOk P gl i g) (hr : ∀ f h, lk r f = some h → FnOk P gl f h) : ∀ f h, lk ((i, g) :: r) f = some h → FnOk P gl f h := by
 intro f h e
 simp only [lk] at e
 split at e
 ·rename_i hb
  cases e
  have := Nat.eq_of_beq_eq_true hb
  subst this; exact hg
 ·exact hr f h e
def noD : HV → List HV → M HV := fun _ _ => stk
theorem noD_ok : DOk P gl noD := fun _hv _args H n r H' h => (stk_some (H := H) (n := n) (r := (r, H')) h).elim
end
end Go.Proofs.YtbphjihgbenkdaaGreat.HQ
