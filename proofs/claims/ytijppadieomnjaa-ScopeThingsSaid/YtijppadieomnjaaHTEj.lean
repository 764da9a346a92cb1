/- trim.Moved, the document's Ahead, the iterator trim.Idle. Conditions: none (lemmas). -/
import Derived.Test.YtijppadieomnjaaHTEe
namespace Go.Proofs.Ytijppadieomnjaa.HT
open Go

theorem wp_ldCg {α : Type} {Q : α → Heap → Prop} {H : Heap} {b o : Nat} {cs : List HV} {ro : Bool} {v : HV} {f : HV → M α} (hb : H.get b = .cells cs ro) (ho : cs[o]? = some v) (h : wp (f v) Q H) : wp (ldC b o f) Q H :=
  wp_of (fun n => by unfold ldC; rw [hb]; unfold gx; simp only [ho]) h

end Go.Proofs.Ytijppadieomnjaa.HT
namespace Go.Proofs.Ytijppadieomnjaa.HT
open Go

/-- an instruction whose goal has moved. -/
def movedI (bs : List Bool) (x : Ins) : Ins := if x.op = 3 ∨ x.op = 20 then { x with a := (keptN bs x.a.toNat : Int) } else x
def trimG (bs : List Bool) (p : List Ins) : Nat → List Ins
  | 0 => []
  | i + 1 => trimG bs p i ++ match p[i]? with
    | some x => if bs.getD i false then [] else [movedI bs x]
    | none => []
theorem trimG_succ {bs : List Bool} {p : List Ins} {i : Nat} (hi : i < p.length) : trimG bs p (i + 1) = trimG bs p i ++ if bs.getD i false then [] else [movedI bs p[i]] := by
  simp only [trimG, List.getElem?_eq_getElem hi]
theorem trimG_len {bs : List Bool} {p : List Ins} (hb : bs.length = p.length) : ∀ {i : Nat}, i ≤ p.length → (trimG bs p i).length = keptN bs i
  | 0, _ => by simp [trimG, keptN]
  | i + 1, hi => by
    have hi' : i < p.length := hi
    rw [trimG_succ hi', List.length_append, trimG_len hb (by omega), keptN_succ (by omega), getD_of (by omega)]
    cases bs[i]'(by omega) <;> simp
/-- once. -/
noncomputable def trim1 (p : List Ins) : List Ins := trimG (idleL p) p p.length

end Go.Proofs.Ytijppadieomnjaa.HT
namespace Go.Proofs.Ytijppadieomnjaa.HT
open Go

/-- a chain of programs: each is let, and the next one is it, trimmed once. -/
structure Chain (C : List Ins → Prop) : Prop where
  can : ∀ p, C p → CanB p
  fit : ∀ p, C p → ∀ x ∈ p, IFit x
  next : ∀ p, C p → C (trim1 p)
theorem trim1_le (p : List Ins) : (trim1 p).length ≤ p.length := by
  unfold trim1
  rw [trimG_len (idleL_len p) (Nat.le_refl _)]
  exact keptN_le _ _
/-- trimmed till nothing more goes. -/
inductive Trims : List Ins → List Ins → Prop
  | last {p : List Ins} : (trim1 p).length = p.length → Trims p (trim1 p)
  | more {p q : List Ins} : (trim1 p).length ≠ p.length → Trims (trim1 p) q → Trims p q

end Go.Proofs.Ytijppadieomnjaa.HT
namespace Go.Proofs.Ytijppadieomnjaa.HT
open Go

/-- a cell of a function's own. -/
structure Cel (H : Heap) (b : Nat) (v : HV) : Prop where
  lt : b < H.n
  get : H.get b = .cells [v] false
theorem Cel.but {M : Nat → Prop} {H H' : Heap} {b : Nat} {v : HV} (h : Cel H b v) (k : But M H H') (hm : ¬ M b) : Cel H' b v := ⟨Nat.lt_of_lt_of_le h.lt k.n, by rw [k.get b h.lt hm]; exact h.get⟩
theorem Cel.keeps {H H' : Heap} {b : Nat} {v : HV} (h : Cel H b v) (k : Keeps H H') : Cel H' b v := ⟨Nat.lt_of_lt_of_le h.lt k.n, by rw [k.get b h.lt]; exact h.get⟩
theorem Cel.ne {H : Heap} {b b' : Nat} {v : HV} {o : HObj} (h : Cel H b v) (hb : b ≠ b') : Cel (H.set b' o) b v := ⟨h.lt, by simp only [Heap.set]; rw [if_neg hb]; exact h.get⟩
theorem Cel.self {H : Heap} {b : Nat} {v : HV} (hb : b < H.n) : Cel (H.set b (.cells [v] false)) b v := ⟨hb, by simp [Heap.set]⟩
theorem Cel.new {H : Heap} {v : HV} : Cel (H.push (.cells [v] false)) H.n v := ⟨by simp [Heap.push], by simp [Heap.push]⟩
/-- a loop's record. -/
structure Lop (H : Heap) (l k : Nat) (vs : List (Nat × HV)) (st : LoopState) (pd : Option Code) : Prop where
  lt : l < H.n
  get : H.get l = .loop k vs st pd
section
variable {H : Heap} {l k : Nat} {vs : List (Nat × HV)} {st : LoopState} {pd : Option Code}
theorem Lop.but {M : Nat → Prop} {H' : Heap} (h : Lop H l k vs st pd) (hk : But M H H') (hm : ¬ M l) : Lop H' l k vs st pd := ⟨Nat.lt_of_lt_of_le h.lt hk.n, by rw [hk.get l h.lt hm]; exact h.get⟩
theorem Lop.keeps {H' : Heap} (h : Lop H l k vs st pd) (hk : Keeps H H') : Lop H' l k vs st pd := ⟨Nat.lt_of_lt_of_le h.lt hk.n, by rw [hk.get l h.lt]; exact h.get⟩
theorem Lop.ne {b' : Nat} {o : HObj} (h : Lop H l k vs st pd) (hb : l ≠ b') : Lop (H.set b' o) l k vs st pd := ⟨h.lt, by simp only [Heap.set]; rw [if_neg hb]; exact h.get⟩
theorem Lop.self (hb : l < H.n) : Lop (H.set l (.loop k vs st pd)) l k vs st pd := ⟨hb, by simp [Heap.set]⟩
theorem Lop.new : Lop (H.push (.loop k vs st pd)) H.n k vs st pd := ⟨by simp [Heap.push], by simp [Heap.push]⟩
end
section
variable {α : Type} {Q : α → Heap → Prop} {H : Heap}
theorem wp_ldcel {b : Nat} {v : HV} (h : Cel H b v) {f : HV → M α} (hf : wp (f v) Q H) : wp (ldC b 0 f) Q H := wp_ldCg h.get rfl hf
theorem wp_stcel {b : Nat} {v0 v : HV} (h : Cel H b v0) (hv : v.sc = true) {m : M α} (hm : wp m Q (H.set b (.cells [v] false))) : wp (stC b 0 v m) Q H := wp_stC h.get (by simp) hv hm
end

/-- what a round of TrimIdle finds: the program, how many are wanted, is all well, how many there were, the last one. -/
structure TI (H : Heap) (b3 b5 b6 b7 b8 : Nat) (s : Sl) (k : Int) (z : Bool) (c last : Int) : Prop where
  c3 : Cel H b3 (.sl s)
  c5 : Cel H b5 (I k)
  c6 : Cel H b6 (.bool z)
  c7 : Cel H b7 (I c)
  c8 : Cel H b8 (I last)
theorem TI.keeps {H H' : Heap} {b3 b5 b6 b7 b8 : Nat} {s : Sl} {k : Int} {z : Bool} {c last : Int} (h : TI H b3 b5 b6 b7 b8 s k z c last) (hk : Keeps H H') : TI H' b3 b5 b6 b7 b8 s k z c last :=
  ⟨h.c3.keeps hk, h.c5.keeps hk, h.c6.keeps hk, h.c7.keeps hk, h.c8.keeps hk⟩
theorem TI.set {H : Heap} {b3 b5 b6 b7 b8 : Nat} {s : Sl} {k : Int} {z : Bool} {c last : Int} (h : TI H b3 b5 b6 b7 b8 s k z c last) {l : Nat} (hl : b3 < l ∧ b5 < l ∧ b6 < l ∧ b7 < l ∧ b8 < l) (o : HObj) : TI (H.set l o) b3 b5 b6 b7 b8 s k z c last :=
  ⟨h.c3.ne (by omega), h.c5.ne (by omega), h.c6.ne (by omega), h.c7.ne (by omega), h.c8.ne (by omega)⟩

end Go.Proofs.Ytijppadieomnjaa.HT
