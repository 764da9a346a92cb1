/- What the functions of the law's texts compute: the order. Conditions: none (lemmas). -/
import Derived.Test.YthlfemjbeihmbaaHLWj
namespace Go.Proofs.Ythlfemjbeihmbaa.HL
open Go
open Classical

def Ahd (l : List Dd) (i k : Nat) : Prop := ∃ a b, l[i]? = some a ∧ l[k]? = some b ∧ Ahead a b
theorem ahd_iff {l : List Dd} {i k : Nat} (hi : i < l.length) (hk : k < l.length) : Ahd l i k ↔ Ahead l[i] l[k] := by
  unfold Ahd
  rw [List.getElem?_eq_getElem hi, List.getElem?_eq_getElem hk]
  constructor
  · rintro ⟨a, b, h1, h2, h3⟩; cases h1; cases h2; exact h3
  · intro h; exact ⟨_, _, rfl, rfl, h⟩
/-- can k be next, where those of S are done? -/
def Pick (A : Nat → Nat → Prop) (n : Nat) (S : List Nat) (k : Nat) : Prop := k < n ∧ k ∉ S ∧ ∀ i, i < n → i ∉ S → i ≠ k → ¬ A i k
def Chain (A : Nat → Nat → Prop) (n : Nat) (S : List Nat) : Prop := ∀ (t k : Nat), S[t]? = some k → Pick A n (S.take t) k ∧ ∀ j, j < k → ¬ Pick A n (S.take t) j
theorem Chain.snoc {A : Nat → Nat → Prop} {n : Nat} {S : List Nat} (h : Chain A n S) {k : Nat} (hk : Pick A n S k) (hj : ∀ j, j < k → ¬ Pick A n S j) : Chain A n (S ++ [k]) := by
  intro t x e
  rcases Nat.lt_or_ge t S.length with ht | ht
  · rw [List.getElem?_append_left ht] at e
    rw [List.take_append_of_le_length (by omega)]
    exact h t x e
  · rw [List.getElem?_append_right ht] at e
    have : t = S.length := by
      rcases Nat.lt_or_ge S.length t with h2 | h2
      · rw [List.getElem?_eq_none (by simp; omega)] at e; cases e
      · omega
    subst this
    simp at e; subst e
    rw [List.take_left]
    exact ⟨hk, hj⟩

theorem set_eq_of {w w' : List Int} {n k : Nat} {v : Int} (hw : w.length = n) (hw' : w'.length = n) (hk : k < n) (h1 : w'[k]? = some v) (h2 : ∀ j, j < n → j ≠ k → w'[j]? = w[j]?) : w.set k v = w' := by
  apply List.ext_getElem?
  intro j
  by_cases hj : j = k
  · subst hj; rw [List.getElem?_set_self (by omega), h1]
  · rw [List.getElem?_set_ne (Ne.symm hj)]
    by_cases hjn : j < n
    · exact (h2 j hjn hj).symm
    · rw [List.getElem?_eq_none (by omega), List.getElem?_eq_none (by omega)]

/-- the first rounds: who waits for how many. -/
noncomputable def w1 (A : Nat → Nat → Prop) (n i kk : Nat) : List Int := (List.range n).map fun k => ((waitN A (fun j => j < i) n k + if k < kk ∧ i ≠ k ∧ A i k then 1 else 0 : Nat) : Int)
theorem w1_len {A : Nat → Nat → Prop} {n i kk : Nat} : (w1 A n i kk).length = n := by simp [w1]
theorem w1_get {A : Nat → Nat → Prop} {n i kk k : Nat} (hk : k < n) : (w1 A n i kk)[k]? = some ((waitN A (fun j => j < i) n k + if k < kk ∧ i ≠ k ∧ A i k then 1 else 0 : Nat) : Int) := by
  simp [w1, hk]
theorem w1_next {A : Nat → Nat → Prop} {n i : Nat} (hi : i < n) : w1 A n i n = w1 A n (i + 1) 0 := by
  unfold w1
  apply List.map_congr_left
  intro k hk
  have hk : k < n := by simpa using hk
  rw [waitN_add (S := fun j => j < i) (S' := fun j => j < i + 1) hi (by omega) (fun j => by omega)]
  simp [hk]
end Go.Proofs.Ythlfemjbeihmbaa.HL
