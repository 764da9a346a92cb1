/- Two blocks that are alike in what is read. Conditions: none (lemmas). -/
import Derived.Test.YtijppadieomnjaaHTMk
import Derived.Test.YtijppadieomnjaaHTPc
import Derived.Test.YtijppadieomnjaaHTTb
import Derived.Test.YtijppadieomnjaaHTMq
import Derived.Test.YtijppadieomnjaaHTPf
namespace Go.Proofs.Ytijppadieomnjaa.HT
open Go

/-- things are alike: these cells, files, places. -/
structure AlT (C F P : Nat → Prop) (t1 t2 : Th) : Prop where
  c : ∀ i, C i → t1.c i = t2.c i
  f : ∀ i, F i → t1.f i = t2.f i
  p : ∀ i, P i → t1.p i = t2.p i
section
variable {C F P : Nat → Prop} {t1 t2 : Th}
theorem AlT.updF (h : AlT C F P t1 t2) (k : Nat) {a b : Fil} (e : F k → a = b) : AlT C F P { t1 with f := HT.updF t1.f k a } { t2 with f := HT.updF t2.f k b } :=
  ⟨h.c, fun i hi => by
    show HT.updF _ _ _ i = HT.updF _ _ _ i
    unfold HT.updF
    split
    · rename_i hk; subst hk; exact e hi
    · exact h.f i hi, h.p⟩
end
end Go.Proofs.Ytijppadieomnjaa.HT
namespace Go.Proofs.Ytijppadieomnjaa.HT
open Go

/-- two states are alike. -/
structure Alk (C F P U : Nat → Prop) (T : Nat → Int → Int → Prop) (o1 o2 : Lo) : Prop where
  th : AlT C F P o1.th o2.th
  out : ∀ i, U i → o1.out i = o2.out i
  ta : ∀ i, T i (o1.ta i) (o2.ta i)
  tx : o1.tx = o2.tx
  la : o1.la = o2.la
  r : o1.r = o2.r
  pl : o1.pl = o2.pl
section
variable {C F P U : Nat → Prop} {T : Nat → Int → Int → Prop}
theorem Alk.setPl {o1 o2 : Lo} (h : Alk C F P U T o1 o2) {a b : Int} (e : a = b) : Alk C F P U T { o1 with pl := a } { o2 with pl := b } := ⟨h.th, h.out, h.ta, h.tx, h.la, h.r, e⟩
theorem Alk.nxt {o1 o2 : Lo} (h : Alk C F P U T o1 o2) : Alk C F P U T (nxt o1) (nxt o2) := h.setPl (by rw [h.pl])
end
end Go.Proofs.Ytijppadieomnjaa.HT
namespace Go.Proofs.Ytijppadieomnjaa.HT
open Go

section
variable {C F P U T : Nat → Prop}
theorem AlT.trans {t1 t2 t3 : Th} (h : AlT C F P t1 t2) (h' : AlT C F P t2 t3) : AlT C F P t1 t3 :=
  ⟨fun i hi => (h.c i hi).trans (h'.c i hi), fun i hi => (h.f i hi).trans (h'.f i hi), fun i hi => (h.p i hi).trans (h'.p i hi)⟩
end
end Go.Proofs.Ytijppadieomnjaa.HT
namespace Go.Proofs.Ytijppadieomnjaa.HT
open Go

/-- a model that a law looks at. -/
def GoodM (m : Lo) : Prop := (∀ j, j < 3 → (m.tx j).size ≤ 64 ∧ 0 ≤ m.th.p j ∧ (m.out j).size ≤ 1024) ∧ ∀ j, j < 6 → (m.th.f j).2.size ≤ 32
theorem GoodM.ok {m : Lo} (h : GoodM m) (at_ : Nat) (r : Nat → Int) : LoOk 0 (begO m at_ r) :=
  ⟨fun i hi => Nat.le_trans (h.2 i hi) (by omega), fun i hi => (h.1 i hi).2.1, fun i hi => Nat.le_trans (h.1 i hi).1 (by omega), fun i hi => Nat.le_trans (h.1 i hi).2.2 (by omega), fun i _ => Nat.le_refl _⟩
end Go.Proofs.Ytijppadieomnjaa.HT
namespace Go.Proofs.Ytijppadieomnjaa.HT
open Go

theorem MoL.c {y : List HV} {o : Lo} (h : MoL y o) {i : Nat} (hi : i < 8) : y[i]? = some (I (o.th.c i)) := by
  have := h.th.c i hi
  rwa [List.getElem?_take, if_pos (by omega)] at this
end Go.Proofs.Ytijppadieomnjaa.HT
