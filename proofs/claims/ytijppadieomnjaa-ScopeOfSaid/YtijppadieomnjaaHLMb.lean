/- Runs of the texts: memory of their own. Conditions: none (lemmas). -/
import Derived.Test.YtijppadieomnjaaHLM
namespace Go.Proofs.Ytijppadieomnjaa.HL
open Go

/-- what was there is as it was. -/
structure Keeps (H H' : Heap) : Prop where
  n : H.n ≤ H'.n
  get : ∀ b, b < H.n → H'.get b = H.get b
theorem Keeps.refl (H : Heap) : Keeps H H := ⟨Nat.le_refl _, fun _ _ => rfl⟩
theorem Keeps.trans {H1 H2 H3 : Heap} (a : Keeps H1 H2) (b : Keeps H2 H3) : Keeps H1 H3 := ⟨Nat.le_trans a.n b.n, fun x hx => (b.get x (Nat.lt_of_lt_of_le hx a.n)).trans (a.get x hx)⟩
theorem Keeps.push (H : Heap) (o : HObj) : Keeps H (H.push o) := ⟨by simp [Heap.push], fun b hb => by simp only [Heap.push]; rw [if_neg (by omega)]⟩
theorem Keeps.set {H0 H : Heap} (h : Keeps H0 H) {b : Nat} (hb : H0.n ≤ b) (o : HObj) : Keeps H0 (H.set b o) := ⟨h.n, fun x hx => by simp only [Heap.set]; rw [if_neg (by omega)]; exact h.get x hx⟩
theorem SlR.keeps {H H' : Heap} {s : Sl} {sz : Nat} {ls : List (List HV)} (h : SlR H s sz ls) (k : Keeps H H') : SlR H' s sz ls :=
  ⟨h.len, h.lt, h.cap, h.opn, h.szs, by
    rcases h.mem with h1 | ⟨b, o, cs, ro, h1, h2, h3, h4⟩
    · exact .inl h1
    · exact .inr ⟨b, o, cs, ro, h1, Nat.lt_of_lt_of_le h2 k.n, by rw [k.get b h2]; exact h3, h4⟩⟩

/-- a slice that is being built, in memory newer than that of H0. -/
structure Own (H0 H : Heap) (s : Sl) (sz : Nat) (ls : List (List HV)) : Prop where
  keeps : Keeps H0 H
  szs : ∀ l ∈ ls, l.length = sz
  lt : ls.length ≤ 9223372036854775807
  mem : (s = ⟨none, 0, 0, none⟩ ∧ ls = []) ∨ ∃ b, s = ⟨some (b, 0), ls.length, ls.length, some sz⟩ ∧ H0.n ≤ b ∧ b < H.n ∧ H.get b = .cells ls.flatten false

theorem Own.nil {H0 H : Heap} (k : Keeps H0 H) (sz : Nat) : Own H0 H ⟨none, 0, 0, none⟩ sz [] := ⟨k, by simp, by simp, .inl ⟨rfl, rfl⟩⟩
/-- other memory is made. -/
theorem Own.keep {H0 H H' : Heap} {s : Sl} {sz : Nat} {ls : List (List HV)} (h : Own H0 H s sz ls) (k : Keeps H H') : Own H0 H' s sz ls :=
  ⟨h.keeps.trans k, h.szs, h.lt, by
    rcases h.mem with h1 | ⟨b, h1, h2, h3, h4⟩
    · exact .inl h1
    · exact .inr ⟨b, h1, h2, Nat.lt_of_lt_of_le h3 k.n, by rw [k.get b h3]; exact h4⟩⟩

/-- of memory that is not that of x. -/
def Sl.apart (s x : Sl) : Prop := ∀ b o, s.p = some (b, o) → x.p ≠ some (b, 0)
section
variable {α : Type} {Q : α → Heap → Prop} {H : Heap}
theorem wp_nw {cs : List HV} {f : Nat → M α} (h : wp (f H.n) Q (H.push (.cells cs false))) : wp (nw cs f) Q H := h
theorem wp_stC {b o : Nat} {v : HV} {m : M α} {cs : List HV} (hb : H.get b = .cells cs false) (ho : o < cs.length) (hv : v.sc = true) (h : wp m Q (H.set b (.cells (cs.set o v) false))) : wp (stC b o v m) Q H := by
  refine wp_of (m' := m) (fun n => ?_) h
  unfold stC
  simp only [hb]
  rw [show decide (o < cs.length) = true from by simpa using ho]
  cases v <;> first | rfl | cases hv

end
end Go.Proofs.Ytijppadieomnjaa.HL
