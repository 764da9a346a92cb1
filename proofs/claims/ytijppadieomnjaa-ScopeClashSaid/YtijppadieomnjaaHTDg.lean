/- A block that is taken out of a program. Conditions: none (plain lemmas). -/
import Derived.Test.YtijppadieomnjaaHTDe
import Derived.Test.YtijppadieomnjaaHTCe
namespace Go.Proofs.Ytijppadieomnjaa.HT
open Go

/-- the first End behind a Begin. -/
structure EndAt (p : List Ins) (at_ e : Nat) : Prop where
  lt : at_ < e
  le : e < p.length
  b : ∀ (h : at_ < p.length), (p[at_]).op = 4
  fin : ∀ (h : e < p.length), (p[e]).op = 5
  no : ∀ k (hk : k < p.length), at_ < k → k < e → (p[k]).op ≠ 5
theorem opn_in {p : List Ins} (hs : Shaped p) {at_ : Nat} (hb : ∀ (h : at_ < p.length), (p[at_]).op = 4) {e : Nat} (he : e < p.length) (hno : ∀ k (hk : k < p.length), at_ < k → k < e → (p[k]).op ≠ 5) :
    ∀ k, at_ < k → k ≤ e → opn p k = at_ := by
  intro k
  induction k with
  | zero => intro h; omega
  | succ k ih =>
    intro h1 h2
    have hk : k < p.length := by omega
    rw [opn_succ hk]
    rcases Nat.lt_or_ge at_ k with h3 | h3
    · have hi := ih h3 (by omega)
      have h4 : (p[k]).op ≠ 4 := fun h => by have := (hs.1 k hk).1 h; omega
      rw [if_neg h4, if_neg (hno k hk h3 (by omega)), hi]
    · have : k = at_ := by omega
      subst this
      rw [if_pos (hb hk)]
theorem exists_end {p : List Ins} (hs : Shaped p) {at_ : Nat} (ha : at_ < p.length) (hb : (p[at_]).op = 4) : ∃ e, EndAt p at_ e := by
  have hex : ∃ e, at_ < e ∧ ∃ h : e < p.length, (p[e]).op = 5 := by
    apply Classical.byContradiction
    intro hn
    have key : ∀ k, at_ < k → k ≤ p.length → 0 ≤ opn p k := by
      intro k
      induction k with
      | zero => intro h; omega
      | succ k ih =>
        intro h1 h2
        have hk : k < p.length := by omega
        rw [opn_succ hk]
        rcases Nat.lt_or_ge at_ k with h3 | h3
        · have hi := ih h3 (by omega)
          split
          · omega
          · rw [if_neg (fun h5 => hn ⟨k, h3, hk, h5⟩)]; exact hi
        · have : k = at_ := by omega
          subst this
          rw [if_pos hb]; omega
    have := key p.length ha (Nat.le_refl _)
    have := hs.2
    omega
  obtain ⟨e, he⟩ := hex
  induction e using Nat.strongRecOn with
  | ind e ih =>
    rcases Classical.em (∃ k, k < e ∧ at_ < k ∧ ∃ h : k < p.length, (p[k]).op = 5) with ⟨k, h1, h2⟩ | hno
    · exact ih k h1 h2
    · obtain ⟨h1, h2, h3⟩ := he
      exact ⟨e, h1, h2, fun _ => hb, fun _ => h3, fun k hk h4 h5 h6 => hno ⟨k, h5, h4, hk, h6⟩⟩
/-- behind the End the block is not open any more. -/
theorem opn_past {p : List Ins} {at_ e : Nat} (h : EndAt p at_ e) : ∀ k, e < k → k ≤ p.length → opn p k ≠ at_ := by
  intro k
  induction k with
  | zero => intro h; omega
  | succ k ih =>
    intro h1 h2
    have hk : k < p.length := by omega
    have := h.lt
    rw [opn_succ hk]
    rcases Nat.lt_or_ge e k with h3 | h3
    · have hi := ih h3 (by omega)
      split
      · omega
      split
      · omega
      · exact hi
    · have : k = e := by omega
      subst this
      rw [if_neg (by rw [h.fin hk]; omega), if_pos (h.fin hk)]; omega

theorem goal_in {p : List Ins} (hc : CanB p) {at_ e : Nat} (h : EndAt p at_ e) {k : Nat} (hk : k < p.length) (h1 : at_ < k) (h2 : k ≤ e) (ho : (p[k]).op = 3 ∨ (p[k]).op = 20) : (k : Int) < (p[k]).a ∧ (p[k]).a ≤ e := by
  obtain ⟨g1, g2, g3, g4⟩ := (hc.one k hk).goal ho
  have hopk := opn_in hc.shaped h.b h.le h.no k h1 h2
  have hB := opn_le_end hc.shaped hk
  rw [← hB, hopk] at g3 g4
  have h3 : (p[k]).a < p.length := by
    rcases Int.lt_or_eq_of_le g2 with hh | hh
    · exact hh
    · have := g3 hh; omega
  have h4 := g4 h3
  rw [← opn_le_end hc.shaped (by omega)] at h4
  refine ⟨g1, ?_⟩
  apply Classical.byContradiction
  intro hn
  exact opn_past h (p[k]).a.toNat (by omega) (by omega) h4
end Go.Proofs.Ytijppadieomnjaa.HT
