/- trim.Moved, the document's Ahead, the iterator trim.Idle. Conditions: none (lemmas). -/
import Derived.Test.YtolchnaegifckaaHSEe
namespace Go.Proofs.Ytolchnaegifckaa.HS
open Go

theorem wp_ldCg {α : Type} {Q : α → Heap → Prop} {H : Heap} {b o : Nat} {cs : List HV} {ro : Bool} {v : HV} {f : HV → M α} (hb : H.get b = .cells cs ro) (ho : cs[o]? = some v) (h : wp (f v) Q H) : wp (ldC b o f) Q H :=
  wp_of (fun n => by unfold ldC; rw [hb]; unfold gx; simp only [ho]) h

end Go.Proofs.Ytolchnaegifckaa.HS
namespace Go.Proofs.Ytolchnaegifckaa.HS
open Go

/-- a cell of a function's own. -/
structure Cel (H : Heap) (b : Nat) (v : HV) : Prop where
  lt : b < H.n
  get : H.get b = .cells [v] false
theorem Cel.but {M : Nat → Prop} {H H' : Heap} {b : Nat} {v : HV} (h : Cel H b v) (k : But M H H') (hm : ¬ M b) : Cel H' b v := ⟨Nat.lt_of_lt_of_le h.lt k.n, by rw [k.get b h.lt hm]; exact h.get⟩
theorem Cel.keeps {H H' : Heap} {b : Nat} {v : HV} (h : Cel H b v) (k : Keeps H H') : Cel H' b v := ⟨Nat.lt_of_lt_of_le h.lt k.n, by rw [k.get b h.lt]; exact h.get⟩
theorem Cel.ne {H : Heap} {b b' : Nat} {v : HV} {o : HObj} (h : Cel H b v) (hb : b ≠ b') : Cel (H.set b' o) b v := ⟨h.lt, by simp only [Heap.set]; rw [if_neg hb]; exact h.get⟩
theorem Cel.new {H : Heap} {v : HV} : Cel (H.push (.cells [v] false)) H.n v := ⟨by simp [Heap.push], by simp [Heap.push]⟩
/-- a loop's record. -/
structure Lop (H : Heap) (l k : Nat) (vs : List (Nat × HV)) (st : LoopState) (pd : Option Code) : Prop where
  lt : l < H.n
  get : H.get l = .loop k vs st pd
section
variable {H : Heap} {l k : Nat} {vs : List (Nat × HV)} {st : LoopState} {pd : Option Code}
theorem Lop.but {M : Nat → Prop} {H' : Heap} (h : Lop H l k vs st pd) (hk : But M H H') (hm : ¬ M l) : Lop H' l k vs st pd := ⟨Nat.lt_of_lt_of_le h.lt hk.n, by rw [hk.get l h.lt hm]; exact h.get⟩
theorem Lop.keeps {H' : Heap} (h : Lop H l k vs st pd) (hk : Keeps H H') : Lop H' l k vs st pd := ⟨Nat.lt_of_lt_of_le h.lt hk.n, by rw [hk.get l h.lt]; exact h.get⟩
theorem Lop.ne {b' : Nat} {o : HObj} (h : Lop H l k vs st pd) (hb : l ≠ b') : Lop (H.set b' o) l k vs st pd := ⟨h.lt, by simp only [Heap.set]; rw [if_neg hb]; exact h.get⟩
theorem Lop.new : Lop (H.push (.loop k vs st pd)) H.n k vs st pd := ⟨by simp [Heap.push], by simp [Heap.push]⟩
end
section
variable {α : Type} {Q : α → Heap → Prop} {H : Heap}
end

/-- what a round of TrimIdle finds: the program, how many are wanted, is all well, how many there were, the last one. -/
structure TI (H : Heap) (b3 b5 b6 b7 b8 : Nat) (s : Sl) (k : Int) (z : Bool) (c last : Int) : Prop where
  c3 : Cel H b3 (.sl s)
  c5 : Cel H b5 (I k)
  c6 : Cel H b6 (.bool z)
  c7 : Cel H b7 (I c)
  c8 : Cel H b8 (I last)
theorem TI.keeps {H H' : Heap} {b3 b5 b6 b7 b8 : Nat} {s : Sl} {k : Int} {z : Bool} {c last : Int} (h : TI H b3 b5 b6 b7 b8 s k z c last) (hk : Keeps H H') : TI H' b3 b5 b6 b7 b8 s k z c last :=
  ⟨h.c3.keeps hk, h.c5.keeps hk, h.c6.keeps hk, h.c7.keeps hk, h.c8.keeps hk⟩
theorem TI.set {H : Heap} {b3 b5 b6 b7 b8 : Nat} {s : Sl} {k : Int} {z : Bool} {c last : Int} (h : TI H b3 b5 b6 b7 b8 s k z c last) {l : Nat} (hl : b3 < l ∧ b5 < l ∧ b6 < l ∧ b7 < l ∧ b8 < l) (o : HObj) : TI (H.set l o) b3 b5 b6 b7 b8 s k z c last :=
  ⟨h.c3.ne (by omega), h.c5.ne (by omega), h.c6.ne (by omega), h.c7.ne (by omega), h.c8.ne (by omega)⟩

end Go.Proofs.Ytolchnaegifckaa.HS
