/- wp over loops over functions. Conditions: none (lemmas). -/
import Derived.Test.YtolchnaegifckaaHRMd
import Derived.Test.YtolchnaegifckaaHRZd
namespace Go.Proofs.Ytolchnaegifckaa.HR
open Go
section
variable {α : Type} {H : Heap} {Q : α → Heap → Prop}
end

section
variable {H : Heap} {Q : HV → Heap → Prop} {l : Nat}
end

/-- all but the blocks of M is as it was. -/
structure But (M : Nat → Prop) (H H' : Heap) : Prop where
  n : H.n ≤ H'.n
  get : ∀ b, b < H.n → ¬ M b → H'.get b = H.get b
theorem But.refl (M : Nat → Prop) (H : Heap) : But M H H := ⟨Nat.le_refl _, fun _ _ _ => rfl⟩
theorem But.trans {M : Nat → Prop} {H1 H2 H3 : Heap} (a : But M H1 H2) (b : But M H2 H3) : But M H1 H3 :=
  ⟨Nat.le_trans a.n b.n, fun x hx hm => (b.get x (Nat.lt_of_lt_of_le hx a.n) hm).trans (a.get x hx hm)⟩
theorem Keeps.but {M : Nat → Prop} {H H' : Heap} (h : Keeps H H') : But M H H' := ⟨h.n, fun b hb _ => h.get b hb⟩
theorem But.set {M : Nat → Prop} {H H' : Heap} (h : But M H H') {b : Nat} (hb : M b) (o : HObj) : But M H (H'.set b o) :=
  ⟨h.n, fun x hx hm => by simp only [Heap.set]; rw [if_neg (fun e => hm (by rw [← e] at hb; exact hb))]; exact h.get x hx hm⟩

theorem Rows.but {β : Type} {f : β → List HV} {sz : Nat} {M : Nat → Prop} {H H' : Heap} {s : Sl} {l : List β} (h : Rows f sz H s l) (hb : But M H H') (hm : ∀ b o, s.p = some (b, o) → ¬ M b) : Rows f sz H' s l := by
  have h : SlR H s sz (l.map f) := h
  refine (⟨h.len, h.lt, h.cap, h.opn, h.szs, ?_⟩ : SlR H' s sz (l.map f))
  rcases h.mem with h1 | ⟨b, o, cs, ro, h1, h2, h3, h4⟩
  · exact .inl h1
  · exact .inr ⟨b, o, cs, ro, h1, Nat.lt_of_lt_of_le h2 hb.n, by rw [hb.get b h2 (hm b o h1)]; exact h3, h4⟩

end Go.Proofs.Ytolchnaegifckaa.HR
