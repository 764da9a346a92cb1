/- Bounds of programs that can be. Conditions: none (plain lemmas). -/
import Derived.Test.YtijppadieomnjaaHLMd
namespace Go.Proofs.Ytijppadieomnjaa.HL
open Go

/-- jumps lead on, within the program. -/
def Fwd (p : List Ins) : Prop := ∀ i (hi : i < p.length), (p[i]).op = 3 ∨ (p[i]).op = 20 → (i : Int) < (p[i]).a ∧ (p[i]).a ≤ p.length
theorem CanB.fwd {p : List Ins} (h : CanB p) : Fwd p := fun i hi ho => ⟨((h.one i hi).goal ho).1, ((h.one i hi).goal ho).2.1⟩
end Go.Proofs.Ytijppadieomnjaa.HL
