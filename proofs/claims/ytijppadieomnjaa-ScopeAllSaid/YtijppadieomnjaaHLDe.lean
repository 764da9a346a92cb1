/- The laws BoundNext, BoundMost, BoundSmall answer true. Conditions: memory is as what came in is. -/
import Derived.Test.YtijppadieomnjaaHLDd
namespace Go.Proofs.Ytijppadieomnjaa.HL
open Go

instance decThings (o a b c : Int) : Decidable (thingsP o a b c) := by unfold thingsP; infer_instance
instance decFields (o a b c : Int) : Decidable (fieldsP o a b c) := by unfold fieldsP; infer_instance
def rowb (p : List Ins) (i : Nat) (x : Ins) : Bool :=
  decide ((x.op = 4 → opn p i < 0) ∧ (x.op = 5 → 0 ≤ opn p i)) && decide (fieldsP x.op x.a x.b x.c) && decide ((x.op = 0 ∨ x.op = 4 → opn p i < 0) ∧ (4 < x.op → 0 ≤ opn p i)) &&
  decide (x.op = 3 ∨ x.op = 20 → (i : Int) < x.a ∧ x.a ≤ p.length ∧ (x.a = p.length → opn p i < 0) ∧ (x.a < p.length → opn p x.a.toNat = opn p i)) &&
  decide (¬ (x.op = 20 ∧ 3 ≤ waysR p i)) && decide (¬ (sureR p i = true ∧ (x.op = 14 ∨ x.op = 19 ∨ x.op = 20 ∨ x.op = 21)))
def canb (p : List Ins) : Bool := decide (p.length ≤ 48) && decide (opn p p.length < 0) && (List.range p.length).all fun i => match p[i]? with
  | none => true
  | some x => rowb p i x
theorem canB_of {p : List Ins} (hf : ∀ x ∈ p, IFit x) (h : canb p = true) : CanB p := by
  unfold canb at h
  simp only [Bool.and_eq_true, decide_eq_true_eq, List.all_eq_true, List.mem_range] at h
  obtain ⟨⟨h1, h2⟩, h3⟩ := h
  have row : ∀ i (hi : i < p.length), rowb p i p[i] = true := fun i hi => by
    have := h3 i hi
    rw [List.getElem?_eq_getElem hi] at this
    exact this
  refine canC_iff.1 ⟨h1, ⟨fun i hi => ?_, h2⟩, fun i hi => ?_⟩
  · have := row i hi
    unfold rowb at this
    simp only [Bool.and_eq_true, decide_eq_true_eq] at this
    exact this.1.1.1.1.1
  · have := row i hi
    unfold rowb at this
    simp only [Bool.and_eq_true, decide_eq_true_eq] at this
    obtain ⟨⟨⟨⟨⟨a, b⟩, c⟩, d⟩, e⟩, f⟩ := this
    exact ⟨(fits_iff _ (hf _ (List.getElem_mem hi))).2 b, c, d, e, f⟩
abbrev Yes : HV → Heap → Prop := fun v _ => v = .bool true

theorem nextL_range {p : List Ins} (hc : CanB p) {i : Nat} (hi : i < p.length) {k : Int} (hk : k ∈ nextL p[i] i) : (i : Int) < k ∧ k ≤ p.length := by
  have hf := hc.fwd i hi
  unfold nextL at hk
  split at hk
  · cases hk
  split at hk
  · rename_i h
    simp at hk; have := hf (.inl h.1); omega
  split at hk
  · rename_i h
    have := hf h.1
    simp at hk; omega
  · simp at hk; omega
theorem c_range {p : List Ins} (hc : CanB p) {i : Nat} (hi : i < p.length) (ho : (p[i]).op = 3) : 0 ≤ (p[i]).c ∧ (p[i]).c ≤ 2 := by
  obtain ⟨⟨l, hl, hin⟩, _⟩ := (hc.one i hi).fits
  rw [ho] at hl
  simp [lims] at hl
  subst hl
  simp [inside] at hin
  omega
end Go.Proofs.Ytijppadieomnjaa.HL
