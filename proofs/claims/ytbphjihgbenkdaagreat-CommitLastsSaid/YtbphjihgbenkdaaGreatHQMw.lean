/- Lemmas for the row. Conditions: none. -/
import Derived.Test.YtbphjihgbenkdaaGreatHQMe
namespace Go.Proofs.YtbphjihgbenkdaaGreat.HQ
set_option linter.unusedVariables false
set_option linter.unusedSectionVars false
set_option linter.unusedSimpArgs false
open Go
class W {α : Type} (m : M α) (Q : α → Heap → Prop) (H : Heap) (R : outParam Prop) : Prop where
 w : R → wp m Q H
class At (cs : List HV) (o : Nat) (v : outParam HV) : Prop where
 at_ : cs[o]? = some v
instance at_zero {v : HV} {r : List HV} : At (v :: r) 0 v := ⟨rfl⟩
instance at_succ {x v : HV} {r : List HV} {o : Nat} [h : At r o v] : At (x :: r) (o + 1) v := ⟨h.at_⟩
section
variable {α : Type} {Q : α → Heap → Prop} {H : Heap} {r : List HV} {R R2 : Prop}
theorem wp_gdP {p : Prop} {m : M α} (hp : p) (h : wp m Q H) : wp (gdP p m) Q H := by unfold HQ.gdP; rw [if_pos hp]; exact h
end
section
variable {Q : Leaf → Heap → Prop} {H : Heap} {R : Prop} {K : List HV → M Leaf} {vs : List HV}
end
/-! local memory -/
section
variable {H0 H : Heap} {l : List (Nat × HObj)}
section
variable {α : Type} {Q : α → Heap → Prop}
end
section
variable {Q : HV → Heap → Prop} {lp k : Nat} {ws : List (Nat × HV)} {st : LoopState} {pd : Option Code} {vs : List HV}
end
end
end Go.Proofs.YtbphjihgbenkdaaGreat.HQ
