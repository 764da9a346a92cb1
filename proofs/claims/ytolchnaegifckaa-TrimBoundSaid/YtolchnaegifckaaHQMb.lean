/- Runs of the texts: memory of their own. Conditions: none (lemmas). -/
import Derived.Test.YtolchnaegifckaaHQM
namespace Go.Proofs.Ytolchnaegifckaa.HQ
open Go

/-- what was there is as it was. -/
structure Keeps (H H' : Heap) : Prop where
  n : H.n ≤ H'.n
  get : ∀ b, b < H.n → H'.get b = H.get b
theorem Keeps.refl (H : Heap) : Keeps H H := ⟨Nat.le_refl _, fun _ _ => rfl⟩
theorem Keeps.trans {H1 H2 H3 : Heap} (a : Keeps H1 H2) (b : Keeps H2 H3) : Keeps H1 H3 := ⟨Nat.le_trans a.n b.n, fun x hx => (b.get x (Nat.lt_of_lt_of_le hx a.n)).trans (a.get x hx)⟩
theorem Keeps.push (H : Heap) (o : HObj) : Keeps H (H.push o) := ⟨by simp [Heap.push], fun b hb => by simp only [Heap.push]; rw [if_neg (by omega)]⟩
theorem Keeps.set {H0 H : Heap} (h : Keeps H0 H) {b : Nat} (hb : H0.n ≤ b) (o : HObj) : Keeps H0 (H.set b o) := ⟨h.n, fun x hx => by simp only [Heap.set]; rw [if_neg (by omega)]; exact h.get x hx⟩
theorem SlR.keeps {H H' : Heap} {s : Sl} {sz : Nat} {ls : List (List HV)} (h : SlR H s sz ls) (k : Keeps H H') : SlR H' s sz ls :=
  ⟨h.len, h.lt, h.cap, h.opn, h.szs, by
    rcases h.mem with h1 | ⟨b, o, cs, ro, h1, h2, h3, h4⟩
    · exact .inl h1
    · exact .inr ⟨b, o, cs, ro, h1, Nat.lt_of_lt_of_le h2 k.n, by rw [k.get b h2]; exact h3, h4⟩⟩

/-- a slice that is being built, in memory newer than that of H0. -/
structure Own (H0 H : Heap) (s : Sl) (sz : Nat) (ls : List (List HV)) : Prop where
  keeps : Keeps H0 H
  szs : ∀ l ∈ ls, l.length = sz
  lt : ls.length ≤ 9223372036854775807
  mem : (s = ⟨none, 0, 0, none⟩ ∧ ls = []) ∨ ∃ b, s = ⟨some (b, 0), ls.length, ls.length, some sz⟩ ∧ H0.n ≤ b ∧ b < H.n ∧ H.get b = .cells ls.flatten false

theorem Own.nil {H0 H : Heap} (k : Keeps H0 H) (sz : Nat) : Own H0 H ⟨none, 0, 0, none⟩ sz [] := ⟨k, by simp, by simp, .inl ⟨rfl, rfl⟩⟩
theorem Own.slR {H0 H : Heap} {s : Sl} {sz : Nat} {ls : List (List HV)} (h : Own H0 H s sz ls) : SlR H s sz ls := by
  rcases h.mem with ⟨rfl, rfl⟩ | ⟨b, rfl, h1, h2, h3⟩
  · exact ⟨rfl, by simp, Nat.le_refl _, .inl rfl, by simp, .inl ⟨rfl, rfl⟩⟩
  · have hl := flatten_length h.szs
    refine ⟨rfl, h.lt, Nat.le_refl _, .inr rfl, h.szs, .inr ⟨b, 0, _, false, rfl, h2, h3, by omega, ?_⟩⟩
    rw [List.drop_zero, ← hl, List.take_length]
/-- other memory is made. -/
theorem Own.keep {H0 H H' : Heap} {s : Sl} {sz : Nat} {ls : List (List HV)} (h : Own H0 H s sz ls) (k : Keeps H H') : Own H0 H' s sz ls :=
  ⟨h.keeps.trans k, h.szs, h.lt, by
    rcases h.mem with h1 | ⟨b, h1, h2, h3, h4⟩
    · exact .inl h1
    · exact .inr ⟨b, h1, h2, Nat.lt_of_lt_of_le h3 k.n, by rw [k.get b h3]; exact h4⟩⟩

/-- of memory that is not that of x. -/
def Sl.apart (s x : Sl) : Prop := ∀ b o, s.p = some (b, o) → x.p ≠ some (b, 0)
section
variable {α : Type} {Q : α → Heap → Prop} {H : Heap}
theorem wp_nw {cs : List HV} {f : Nat → M α} (h : wp (f H.n) Q (H.push (.cells cs false))) : wp (nw cs f) Q H := h
theorem wp_stC {b o : Nat} {v : HV} {m : M α} {cs : List HV} (hb : H.get b = .cells cs false) (ho : o < cs.length) (hv : v.sc = true) (h : wp m Q (H.set b (.cells (cs.set o v) false))) : wp (stC b o v m) Q H := by
  refine wp_of (m' := m) (fun n => ?_) h
  unfold stC
  simp only [hb]
  rw [show decide (o < cs.length) = true from by simpa using ho]
  cases v <;> first | rfl | cases hv

/-- one more element. -/
theorem wp_apd {H0 : Heap} {s : Sl} {sz by_ : Nat} {ls : List (List HV)} (h : Own H0 H s sz ls) {l : List HV} (hl : l.length = sz) (hsz : 0 < sz) (hr : (ls.length + 1) * by_ ≤ room) (hr2 : ls.length + 1 ≤ room) {f : Sl → M α}
    (hf : ∀ s' H', Own H0 H' s' sz (ls ++ [l]) → (∀ b, b < H.n → s.p ≠ some (b, 0) → H'.get b = H.get b) → H.n ≤ H'.n → s'.p = some (H.n, 0) → wp (f s') Q H') : wp (apd s sz by_ 1 l f) Q H := by
  have hlen : s.len = ls.length := h.slR.len
  have hk := h.keeps
  have hroom : room ≤ 9223372036854775807 := by decide
  unfold apd
  have hg : (decide ((s.len + 1) * by_ ≤ room) && decide (l.length = 1 * sz) && decide (0 < sz) && decide (s.len + 1 ≤ room)) = true := by
    rw [hlen]; simp [hl, hsz, hr, hr2]
  have hszs : ∀ x ∈ ls ++ [l], x.length = sz := fun x hx => by
    rcases List.mem_append.1 hx with hx | hx
    · exact h.szs x hx
    · simp at hx; subst hx; exact hl
  rw [hg]
  rcases h.mem with ⟨rfl, rfl⟩ | ⟨b, rfl, h1, h2, h3⟩
  · refine wp_of (m' := f ⟨some (H.n, 0), 1, 1, some sz⟩) (H' := H.push (.cells l false)) (fun n => rfl) (hf _ _ ⟨hk.trans (Keeps.push _ _), hszs, by simp, .inr ⟨H.n, rfl, hk.n, by simp [Heap.push], by simp [Heap.push]⟩⟩ (fun b hb _ => (Keeps.push H _).get b hb) (by simp [Heap.push]) rfl)
  · have hfl : (ls.flatten).length = ls.length * sz := flatten_length h.szs
    have hget : ∀ (x : Nat), ((H.set b .dead).push (.cells ((ls ++ [l]).flatten) false)).get x = if x = H.n then .cells ((ls ++ [l]).flatten) false else if x = b then .dead else H.get x := fun _ => rfl
    refine wp_of (m' := f ⟨some (H.n, 0), ls.length + 1, ls.length + 1, some sz⟩) (H' := (H.set b .dead).push (.cells ((ls ++ [l]).flatten) false)) (fun n => ?_) (hf _ _ ⟨?_, hszs, by simp; omega, .inr ⟨H.n, by simp, hk.n, by simp [Heap.push, Heap.set], by rw [hget, if_pos rfl]⟩⟩ ?_ (by simp [Heap.push, Heap.set]) rfl)
    · show (if ls.length + 1 ≤ ls.length then _ else _ : Option (α × Heap)) = _
      rw [if_neg (by omega)]
      simp only [h3]
      unfold gxN
      rw [show decide (0 + ls.length * sz ≤ ls.flatten.length) = true from by simp [hfl]]
      have e1 : (ls.flatten.drop 0).take (ls.length * sz) = ls.flatten := by rw [List.drop_zero, ← hfl, List.take_length]
      have e2 : (decide (sz = sz) && decide (0 = 0) && decide (ls.flatten.length = ls.length * sz) && !false) = true := by simp [hfl]
      simp only [gd, e1, nw, hfl, decide_true, Bool.and_self, Bool.not_false]
      simp [Heap.set]
    · exact ⟨by have := hk.n; simp [Heap.push, Heap.set]; omega, fun x hx => by
        have := hk.n
        rw [hget, if_neg (by omega), if_neg (by omega)]; exact hk.get x hx⟩
    · intro x hx hne
      rw [hget, if_neg (by omega), if_neg (fun hh => hne (by rw [hh]))]
end
end Go.Proofs.Ytolchnaegifckaa.HQ
