/- What the document's Most and Total compute. Conditions: none (lemmas). -/
import Derived.Test.YtijppadieomnjaaHLDc
namespace Go.Proofs.Ytijppadieomnjaa.HL
open Go

/-- an array of numbers, kept whole. -/
def ArrF (n : Nat) (y : List HV) (f : Nat → Int) : Prop := y.length = n ∧ ∀ k, k < n → y[k]? = some (I (f k))
section
variable {n : Nat} {y : List HV} {f : Nat → Int} {α : Type} {Q : α → Heap → Prop} {H : Heap}
theorem ArrF.set (h : ArrF n y f) {e k : Nat} (he : e = k) (v : Int) : ArrF n (List.set y e (I v)) (fun q => if q = k then v else f q) := by
  subst he
  refine ⟨by simp [h.1], fun q hq => ?_⟩
  by_cases hqe : q = e
  · subst hqe; rw [List.getElem?_set_self (by rw [h.1]; exact hq)]; simp
  · rw [List.getElem?_set_ne (Ne.symm hqe), h.2 q hq]; simp [hqe]
theorem wp_gxAll (h : y.length = n) {g : List HV → M α} (hg : wp (g y) Q H) : wp (gxN y 0 n g) Q H := by
  have e1 : (y.drop 0).take n = y := by rw [List.drop_zero, ← h, List.take_length]
  unfold gxN
  refine wp_gd (by rw [h]; simp) ?_
  rw [e1]; exact hg
end

end Go.Proofs.Ytijppadieomnjaa.HL
