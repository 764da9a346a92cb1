/- Histories: the document's and the program's answers are one. Conditions: none (plain lemmas). -/
import Derived.Test.YthlfemjbeihmbaaHLWd
namespace Go.Proofs.Ythlfemjbeihmbaa.HL
open Go

theorem Single.nodup {l : List En} {least : Int} (h : Single l least) : l.Nodup := by
  unfold List.Nodup
  rw [List.pairwise_iff_getElem]
  intro i j hi hj hij he
  have h1 := h.2 j (l[j]) (List.getElem?_eq_getElem hj)
  have h2 := h1.2 i hij (l[j]) (by rw [← he, List.getElem?_eq_getElem hi])
  simp [alike] at h2
theorem count_nodup {l : List En} (h : l.Nodup) (e : En) : l.count e = if e ∈ l then 1 else 0 := by
  induction l with
  | nil => rfl
  | cons x l ih =>
    rw [List.nodup_cons] at h
    rw [List.count_cons, ih h.2]
    by_cases hx : x = e
    · subst hx; simp [h.1]
    · simp [hx, Ne.symm hx]
theorem Single.count {l : List En} {least : Int} (h : Single l least) (e : En) : l.count e = if e ∈ l then 1 else 0 := count_nodup h.nodup e
theorem wrote_writers {l : List Dd} (h : ∀ d ∈ l, Single d.w 1) (e : En) : wroteN l e = writersN l e := by
  induction l with
  | nil => rfl
  | cons d l ih =>
    have h1 := ih fun x hx => h x (List.mem_cons_of_mem _ hx)
    have h2 := (h d List.mem_cons_self).count e
    unfold wroteN at h1 ⊢
    unfold writersN at h1 ⊢
    rw [List.map_cons, List.sum_cons, h1, h2, List.countP_cons]
    simp only [decide_eq_true_eq]
    omega
theorem writers_pos {l : List Dd} {d : Dd} (hd : d ∈ l) {e : En} (he : e ∈ d.w) : 0 < writersN l e := by
  unfold writersN
  exact List.countP_pos_iff.2 ⟨d, hd, by simpa using he⟩
theorem can_iff (l : List Dd) : CanR l ↔ CanP l := by
  unfold CanR CanP
  constructor
  · rintro ⟨h1, h2⟩
    have hw := wrote_writers (l := l) fun d hd => (h1 d hd).2
    refine ⟨h1, fun d hd => ⟨fun e he => ?_, fun e he hv => ?_⟩⟩
    · have := (h2 d hd).1 e he
      rw [hw] at this
      have := writers_pos hd he
      omega
    · have h3 := (h2 d hd).2 e he hv
      rw [hw] at h3
      have : 0 < writersN l e := by omega
      unfold writersN at this
      obtain ⟨d', hd', he'⟩ := List.countP_pos_iff.1 this
      have h4 := (h2 d' hd').1 e (by simpa using he')
      rw [hw] at h4
      have h5 : 0 < writersN l e := by omega
      omega
  · rintro ⟨h1, h2⟩
    have hw := wrote_writers (l := l) fun d hd => (h1 d hd).2
    refine ⟨h1, fun d hd => ⟨fun e he => ?_, fun e he hv => ?_⟩⟩
    · rw [hw, (h2 d hd).1 e he]; exact Nat.le_refl _
    · rw [hw, (h2 d hd).2 e he hv]; omega
end Go.Proofs.Ythlfemjbeihmbaa.HL
