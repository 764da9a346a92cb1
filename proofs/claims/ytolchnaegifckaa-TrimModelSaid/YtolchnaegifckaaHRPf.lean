/- What the document's Of (scope) computes. Conditions: none (lemmas). -/
import Derived.Test.YtolchnaegifckaaHRPc
namespace Go.Proofs.Ytolchnaegifckaa.HR
open Go

/-- places that were set. -/
structure PW (L T : List Bool) (A : Nat → Prop) : Prop where
  len : T.length = 57
  at_ : ∀ x, T.getD x false = true ↔ L.getD x false = true ∨ A x
theorem PW.set {L T : List Bool} {A : Nat → Prop} (h : PW L T A) {e : Nat} (he : e < 57) {v : Bool} {nb : Prop} (hv : v = true ↔ T.getD e false = true ∨ nb) : PW L (T.set e v) (fun x => A x ∨ (x = e ∧ nb)) := by
  refine ⟨by simpa using h.len, fun x => ?_⟩
  by_cases hx : x = e
  · subst hx
    rw [getD_set_self (by rw [h.len]; exact he), hv, h.at_]
    constructor
    · rintro ((h | h) | h)
      · exact .inl h
      · exact .inr (.inl h)
      · exact .inr (.inr ⟨rfl, h⟩)
    · rintro (h | h | ⟨_, h⟩)
      · exact .inl (.inl h)
      · exact .inl (.inr h)
      · exact .inr h
  · rw [getD_set_ne hx, h.at_]; simp [hx]
end Go.Proofs.Ytolchnaegifckaa.HR
namespace Go.Proofs.Ytolchnaegifckaa.HR
open Go

theorem Beg.of {p : List Ins} {k e : Nat} (hc : CanB p) (he : EndAt p k e) : Beg p (k : Int) := ⟨hc, k, rfl, Nat.lt_trans he.lt he.le, he.b _⟩
end Go.Proofs.Ytolchnaegifckaa.HR
