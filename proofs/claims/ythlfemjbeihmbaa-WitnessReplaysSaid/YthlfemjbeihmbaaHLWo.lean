/- What the functions of the law's texts compute: order, whole. Conditions: what is handed in tells 'Ahead'. -/
import Derived.Test.YthlfemjbeihmbaaHLWn
namespace Go.Proofs.Ythlfemjbeihmbaa.HL
open Go
open Classical

theorem Own.set {H0 H : Heap} {s : Sl} {sz : Nat} {ls : List (List HV)} (h : Own H0 H s sz ls) {b : Nat} (hb : H0.n ≤ b) (hs : s.p ≠ some (b, 0)) (c : HObj) : Own H0 (H.set b c) s sz ls :=
  ⟨h.keeps.set hb c, h.szs, h.lt, by
    rcases h.mem with h1 | ⟨b2, h1, h2, h3, h4⟩
    · exact .inl h1
    · refine .inr ⟨b2, h1, h2, h3, ?_⟩
      simp only [Heap.set]
      rw [if_neg]
      · exact h4
      · rintro rfl; exact hs (by rw [h1])⟩
theorem Nums.besides {H H' : Heap} {b : Nat} {w : List Int} (h : Nums H b w) (hn : H.n ≤ H'.n) (hg : H'.get b = H.get b) : Nums H' b w := ⟨Nat.lt_of_lt_of_le h.lt hn, by rw [hg]; exact h.get, h.len⟩

/-- what the numbers are, where those of S are done. -/
def WS (A : Nat → Nat → Prop) (n : Nat) (S : List Nat) (w : List Int) : Prop := w.length = n ∧ ∀ k, k < n → (k ∉ S → w[k]? = some ((waitN A (fun i => i ∉ S) n k : Nat) : Int)) ∧ (k ∈ S → ∃ v : Int, w[k]? = some v ∧ v < 0 ∧ -1 - (S.length : Int) ≤ v)

theorem WS.start {A : Nat → Nat → Prop} {n : Nat} : WS A n [] (w1 A n n 0) := by
  refine ⟨w1_len, fun k hk => ⟨fun _ => ?_, fun h => by cases h⟩⟩
  rw [w1_get hk, if_neg (by omega)]
  have : waitN A (fun j => j < n) n k = waitN A (fun i => i ∉ []) n k := by
    unfold waitN
    refine List.countP_congr fun i hi => ?_
    have : i < n := by simpa using hi
    simp [this]
  rw [this]; rfl
theorem WS.pick {A : Nat → Nat → Prop} {n : Nat} {S : List Nat} {w : List Int} (h : WS A n S w) (k : Nat) : Pick A n S k ↔ w[k]? = some 0 := by
  constructor
  · rintro ⟨h1, h2, h3⟩
    rw [(h.2 k h1).1 h2, waitN_zero.2 fun i hi hs hik => h3 i hi hs hik]; rfl
  · intro e
    have hk : k < n := by
      rw [← h.1]; exact (List.getElem?_eq_some_iff.1 e).1
    by_cases hs : k ∈ S
    · obtain ⟨v, h1, h2, _⟩ := (h.2 k hk).2 hs
      rw [e] at h1; cases h1; omega
    · have h1 := (h.2 k hk).1 hs
      rw [e] at h1
      have h2 : waitN A (fun i => i ∉ S) n k = 0 := by
        have := Option.some.inj h1; omega
      exact ⟨hk, hs, fun i hi hns hik => waitN_zero.1 h2 i hi hns hik⟩
theorem WS.next {A : Nat → Nat → Prop} {n : Nat} {S : List Nat} {w : List Int} (h : WS A n S w) {i : Nat} (hi : i < n) (hS : i ∉ S) : WS A n (S ++ [i]) (w2 A (w.set i (-1)) n i n) := by
  refine ⟨w2_len, fun k hk => ⟨fun hks => ?_, fun hks => ?_⟩⟩
  · have hk1 : k ∉ S := fun hh => hks (List.mem_append_left _ hh)
    have hk2 : k ≠ i := fun hh => hks (by simp [hh])
    have h1 := (h.2 k hk).1 hk1
    have h2 : waitN A (fun j => j ∉ S) n k = waitN A (fun j => j ∉ S ++ [i]) n k + if i ≠ k ∧ A i k then 1 else 0 :=
      waitN_add hi (by simp) (fun j => by
        by_cases hj : j = i
        · subst hj; simp [hS]
        · simp [hj])
    rw [w2_get hk, List.getD_eq_getElem?_getD, List.getElem?_set_ne (Ne.symm hk2), h1]
    simp only [Option.getD_some]
    congr 1
    rw [h2]
    by_cases hc : A i k
    · rw [if_pos ⟨Ne.symm hk2, hc⟩, if_pos ⟨hk, hk2, hc⟩]; omega
    · rw [if_neg (fun q => hc q.2), if_neg (fun q => hc q.2.2)]; omega
  · rw [w2_get hk, List.getD_eq_getElem?_getD]
    by_cases hki : k = i
    · subst hki
      rw [List.getElem?_set_self (by rw [h.1]; exact hk), if_neg (fun q => q.2.1 rfl)]
      exact ⟨_, rfl, by simp, by simp only [Option.getD_some, List.length_append, List.length_singleton]; omega⟩
    · have hk1 : k ∈ S := by
        rcases List.mem_append.1 hks with hh | hh
        · exact hh
        · simp at hh; exact absurd hh hki
      obtain ⟨v, h1, h2, h3⟩ := (h.2 k hk).2 hk1
      rw [List.getElem?_set_ne (Ne.symm hki), h1]
      refine ⟨_, rfl, ?_, ?_⟩
      · simp only [Option.getD_some]; split <;> omega
      · simp only [Option.getD_some, List.length_append, List.length_singleton]; split <;> omega
theorem WS.bound {A : Nat → Nat → Prop} {n : Nat} {S : List Nat} {w : List Int} (h : WS A n S w) (hn : n ≤ 1000) (hS : S.length ≤ 1000) : ∀ x ∈ w, -2000 ≤ x ∧ x ≤ 2000 := by
  intro x hx
  obtain ⟨k, hk, rfl⟩ := List.getElem_of_mem hx
  have hkn : k < n := by rw [← h.1]; exact hk
  by_cases hs : k ∈ S
  · obtain ⟨v, h1, h2, h3⟩ := (h.2 k hkn).2 hs
    rw [List.getElem?_eq_getElem hk] at h1
    have := Option.some.inj h1; omega
  · have h1 := (h.2 k hkn).1 hs
    rw [List.getElem?_eq_getElem hk] at h1
    have := Option.some.inj h1
    have hw : waitN A (fun i => i ∉ S) n k ≤ n := waitN_le
    omega
end Go.Proofs.Ythlfemjbeihmbaa.HL
