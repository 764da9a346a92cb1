/- Functions that call one another, one behind the other. Conditions: none (lemmas). -/
import Derived.Test.YtolchnaegifckaaHPZb
namespace Go.Proofs.Ytolchnaegifckaa.HP
open Go
set_option linter.unusedSectionVars false
variable [Sites]
def lk : List (Nat × (List HV → M HV)) → Nat → Option (List HV → M HV)
  | [], _ => none
  | (i, g) :: r, f => match Nat.beq f i with
    | true => some g
    | false => lk r f
section
variable {P : Program} {gl : Nat → Option Nat}
theorem lk_nil : ∀ f h, lk [] f = some h → FnOk P gl f h := fun _ _ h => by cases h
theorem lk_cons {i : Nat} {g : List HV → M HV} {r : List (Nat × (List HV → M HV))} (hg : FnOk P gl i g) (hr : ∀ f h, lk r f = some h → FnOk P gl f h) : ∀ f h, lk ((i, g) :: r) f = some h → FnOk P gl f h := by
  intro f h e
  simp only [lk] at e
  split at e
  · rename_i hb
    cases e
    have := Nat.eq_of_beq_eq_true hb
    subst this; exact hg
  · exact hr f h e
/-- no value is called. -/
def noD : HV → List HV → M HV := fun _ _ => stk
theorem noD_ok : DOk P gl noD := fun _hv _args H n r H' h => (stk_some (H := H) (n := n) (r := (r, H')) h).elim
/-- functions of the program, by their numbers, without captured values. -/
def tabD (f : Nat → Option (List HV → M HV)) : HV → List HV → M HV := fun v args => match v with
  | .func i [] [] => match f i with
    | some g => g args
    | none => stk
  | _ => stk
theorem tabD_ok {f : Nat → Option (List HV → M HV)} (hf : ∀ i g, f i = some g → FnOk P gl i g) : DOk P gl (tabD f) := by
  intro hv args H n r H' h I w v args' hR hgl hvr hargs
  replace h : app (tabD f hv args) H n = some (r, H') := h
  unfold tabD at h
  split at h
  · rename_i i
    split at h
    · rename_i g hg
      cases hvr with
      | func a b =>
        cases a; cases b
        obtain ⟨h1, h2⟩ := hf i g hg
        refine .inl ⟨i, #[], #[], rfl, h1, ?_⟩
        have := h2 args H n r H' h I w args' hR hgl hargs
        simpa using this
    · exact (stk_some h).elim
  · exact (stk_some h).elim
end
end Go.Proofs.Ytolchnaegifckaa.HP
