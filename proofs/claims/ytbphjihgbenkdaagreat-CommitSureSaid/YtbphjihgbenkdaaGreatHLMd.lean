/- Runs of the texts: one rule for each form, so that straight code is walked by trying them in turn. Conditions: none (lemmas). -/
import Derived.Test.YtbphjihgbenkdaaGreatHLMc
namespace Go.Proofs.YtbphjihgbenkdaaGreat.HL
open Go

section
variable {α : Type} {Q : α → Heap → Prop} {H : Heap} {β : Type} {f : β → List HV} {sz : Nat} {s : Sl} {l : List β}
end
theorem wp_condT {α : Type} {Q : α → Heap → Prop} {H : Heap} {x y : M α} (h : wp x Q H) : wp (cond true x y) Q H := h
theorem wp_condF {α : Type} {Q : α → Heap → Prop} {H : Heap} {x y : M α} (h : wp y Q H) : wp (cond false x y) Q H := h
theorem wp_condNT {α : Type} {Q : α → Heap → Prop} {H : Heap} {x y : M α} (h : wp y Q H) : wp (cond (!true) x y) Q H := h
theorem wp_condNF {α : Type} {Q : α → Heap → Prop} {H : Heap} {x y : M α} (h : wp x Q H) : wp (cond (!false) x y) Q H := h
def PFin (Q : HV → Heap → Prop) : Leaf → Heap → Prop := fun l H' => match l with
  | .ret [v] => Q v H'
  | .ret vs => Q (.tup vs) H'
  | _ => False
section
variable {H : Heap} {Q : HV → Heap → Prop} {R : Leaf → Heap → Prop} {K : List HV → M Leaf} {id : Nat} {vs : List HV}
theorem wp_finF {m : M Leaf} (h : wp m (PFin Q) H) : wp (fin m) Q H := wp_fin h
theorem wp_rF {v : HV} (h : Q v H) : wp (ret (.ret [v])) (PFin Q) H := wp_ret h
theorem wp_rF0 (h : Q (.tup []) H) : wp (ret (.ret [])) (PFin Q) H := wp_ret h
theorem wp_rF2 {v w : HV} (h : Q (.tup [v, w]) H) : wp (ret (.ret [v, w])) (PFin Q) H := wp_ret h
theorem wp_rF3 {v w u : HV} (h : Q (.tup [v, w, u]) H) : wp (ret (.ret [v, w, u])) (PFin Q) H := wp_ret h
theorem wp_nN (h : wp (K vs) R H) : wp (ret (.norm vs)) (PNorm R K) H := wp_ret h
theorem wp_rN (h : wp (ret (.ret vs)) R H) : wp (ret (.ret vs)) (PNorm R K) H := by
  obtain ⟨n, a, H', h1, h2⟩ := h
  have := h1 n (Nat.le_refl _)
  cases this
  exact wp_ret h2
theorem wp_xN {i : Nat} (h : wp (ret (.exit i vs)) R H) : wp (ret (.exit i vs)) (PNorm R K) H := by
  obtain ⟨n, a, H', h1, h2⟩ := h
  have := h1 n (Nat.le_refl _)
  cases this
  exact wp_ret h2
theorem wp_nB (h : wp (K vs) R H) : wp (ret (.norm vs)) (PBlk id R K) H := wp_ret h
theorem wp_rB (h : wp (ret (.ret vs)) R H) : wp (ret (.ret vs)) (PBlk id R K) H := by
  obtain ⟨n, a, H', h1, h2⟩ := h
  have := h1 n (Nat.le_refl _)
  cases this
  exact wp_ret h2
/-- out of this block. -/
theorem wp_xB {i : Nat} (hi : Nat.beq i id = true) (h : wp (K vs) R H) : wp (ret (.exit i vs)) (PBlk id R K) H := by
  refine wp_ret ?_
  unfold PBlk; simp only [hi]; exact h
variable {σ : Type} {st : σ → Int → List HV} {P : Nat → σ → Heap → Prop} {i : Nat}
theorem wp_nR (h : ∃ x', vs = st x' (wr ((i : Int) + 1)) ∧ P (i + 1) x' H) : wp (ret (.norm vs)) (PFor st P i R) H := wp_ret h
theorem wp_rR (h : wp (ret (.ret vs)) R H) : wp (ret (.ret vs)) (PFor st P i R) H := by
  obtain ⟨n, a, H', h1, h2⟩ := h
  have := h1 n (Nat.le_refl _)
  cases this
  exact wp_ret h2
theorem wp_xR {j : Nat} (h : wp (ret (.exit j vs)) R H) : wp (ret (.exit j vs)) (PFor st P i R) H := by
  obtain ⟨n, a, H', h1, h2⟩ := h
  have := h1 n (Nat.le_refl _)
  cases this
  exact wp_ret h2
/-- a loop of one counter, the memory as it is. -/
def PF0 (P : Nat → Prop) (i : Nat) (H : Heap) (R : Leaf → Heap → Prop) : Leaf → Heap → Prop := fun lf H' => match lf with
  | .norm vs => vs = [I (wr ((i : Int) + 1))] ∧ P (i + 1) ∧ H' = H
  | l => R l H'
variable {P : Nat → Prop}
theorem wp_n0 (h : P (i + 1)) : wp (ret (.norm [I (wr ((i : Int) + 1))])) (PF0 P i H R) H := wp_ret ⟨rfl, h, rfl⟩
end

section
variable {H : Heap} {R : Leaf → Heap → Prop} {K : List HV → M Leaf} {vs : List HV} {σ : Type} {st : Nat → σ → List HV} {P : Nat → σ → Heap → Prop} {i : Nat}
/-- a join that hands on one bool, told by p. -/
def PB (p : Prop) (H : Heap) : Leaf → Heap → Prop := fun lf H' => ∃ b : Bool, lf = .norm [.bool b] ∧ (b = true ↔ p) ∧ H' = H
theorem wp_bB {p : Prop} {b : Bool} (h : b = true ↔ p) : wp (ret (.norm [.bool b])) (PB p H) H := wp_ret ⟨b, rfl, h, rfl⟩
end
end Go.Proofs.YtbphjihgbenkdaaGreat.HL
