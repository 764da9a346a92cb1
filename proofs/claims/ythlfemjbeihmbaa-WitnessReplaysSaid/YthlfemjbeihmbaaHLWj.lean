/- What the functions of the law's texts compute: the order. Conditions: none (lemmas). -/
import Derived.Test.YthlfemjbeihmbaaHLWi
namespace Go.Proofs.Ythlfemjbeihmbaa.HL
open Go
open Classical

/-- how many of S must come ahead of k. -/
noncomputable def waitN (A : Nat → Nat → Prop) (S : Nat → Prop) (n k : Nat) : Nat := (List.range n).countP fun i => decide (S i ∧ i ≠ k ∧ A i k)
theorem waitN_zero {A : Nat → Nat → Prop} {S : Nat → Prop} {n k : Nat} : waitN A S n k = 0 ↔ ∀ i, i < n → S i → i ≠ k → ¬ A i k := by
  unfold waitN
  rw [List.countP_eq_zero]
  simp only [List.mem_range, decide_eq_true_eq, not_and]
theorem waitN_le {A : Nat → Nat → Prop} {S : Nat → Prop} {n k : Nat} : waitN A S n k ≤ n := by
  unfold waitN
  exact Nat.le_trans List.countP_le_length (by simp)
theorem waitN_none {A : Nat → Nat → Prop} {n k : Nat} : waitN A (fun i => i < 0) n k = 0 := waitN_zero.2 fun i _ h => by omega
/-- one more. -/
theorem waitN_add {A : Nat → Nat → Prop} {S S' : Nat → Prop} {n k a : Nat} (ha : a < n) (hS : ¬ S a) (hS' : ∀ i, S' i ↔ S i ∨ i = a) :
    waitN A S' n k = waitN A S n k + if a ≠ k ∧ A a k then 1 else 0 := by
  unfold waitN
  have key : ∀ m, m ≤ n → (List.range m).countP (fun i => decide (S' i ∧ i ≠ k ∧ A i k)) = (List.range m).countP (fun i => decide (S i ∧ i ≠ k ∧ A i k)) + if a < m ∧ a ≠ k ∧ A a k then 1 else 0 := by
    intro m
    induction m with
    | zero => intro _; simp
    | succ m ih =>
      intro hm
      rw [List.range_succ, List.countP_append, List.countP_append, ih (by omega)]
      simp only [List.countP_singleton, decide_eq_true_eq]
      by_cases hma : m = a
      · subst hma
        have h1 : S' m := (hS' m).2 (.inr rfl)
        simp only [h1, hS, true_and, false_and, if_false, Nat.lt_irrefl, Nat.lt_succ_self]
        try omega
      · have h1 : S' m ↔ S m := by rw [hS']; simp [hma]
        rw [h1]
        have h2 : (a < m + 1 ∧ a ≠ k ∧ A a k) ↔ (a < m ∧ a ≠ k ∧ A a k) := by
          constructor
          · rintro ⟨q, r⟩; exact ⟨by omega, r⟩
          · rintro ⟨q, r⟩; exact ⟨by omega, r⟩
        simp only [h2]
        omega
  have := key n (Nat.le_refl _)
  simpa [ha] using this
end Go.Proofs.Ythlfemjbeihmbaa.HL
