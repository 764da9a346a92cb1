/- From goes over all places to which ways lead; law27.marked. Conditions: the program can be, and the place is one (lemmas). -/
import Derived.Test.YtolchnaegifckaaHREj
namespace Go.Proofs.Ytolchnaegifckaa.HR
open Go

/-- what law27.marked keeps in memory. -/
structure MK (H : Heap) (n : Nat) (s : Sl) (L : List Bool) : Prop where
  c2 : Cel H n (.sl s)
  c4 : H.get (n + 1) = .cells (List.replicate 49 (HV.bool false)) false
  l4 : n + 1 < H.n
  c5 : Cel H (n + 2) (.bool false)
  c6 : Bools H (n + 3) L
theorem MK.keeps {H H' : Heap} {n : Nat} {s : Sl} {L : List Bool} (h : MK H n s L) (k : Keeps H H') : MK H' n s L :=
  ⟨h.c2.keeps k, by rw [k.get _ h.l4]; exact h.c4, Nat.lt_of_lt_of_le h.l4 k.n, h.c5.keeps k, h.c6.keeps k⟩
theorem MK.ne {H : Heap} {n : Nat} {s : Sl} {L : List Bool} (h : MK H n s L) {b : Nat} (hb : n + 3 < b) (o : HObj) : MK (H.set b o) n s L :=
  ⟨h.c2.ne (by omega), by simp only [Heap.set]; rw [if_neg (by omega)]; exact h.c4, h.l4, h.c5.ne (by omega), ⟨h.c6.lt, by simp only [Heap.set]; rw [if_neg (by omega)]; exact h.c6.get, h.c6.len⟩⟩
theorem MK.mark {H : Heap} {n : Nat} {s : Sl} {L : List Bool} (h : MK H n s L) (i : Nat) : MK (H.set (n + 3) (.cells ((L.map HV.bool).set i (.bool true)) false)) n s (L.set i true) :=
  ⟨h.c2.ne (by omega), by simp only [Heap.set]; rw [if_neg (by omega)]; exact h.c4, h.l4, h.c5.ne (by omega), h.c6.set i true⟩

theorem wp_eqM {α : Type} {Q : α → Heap → Prop} {H : Heap} {sh : List Sc} {xs ys : List HV} {b : Bool} {f : Bool → M α} (he : eqSh sh xs ys = some b) (h : wp (f b) Q H) : wp (eqM sh xs ys f) Q H := by
  unfold eqM; rw [he]; exact h
end Go.Proofs.Ytolchnaegifckaa.HR
