/- A block, walked (ref23.Block). Conditions: the program can be, the block begins where it is said to. -/
import Derived.Test.YtijppadieomnjaaHTMk
import Derived.Test.YtijppadieomnjaaHTNa
namespace Go.Proofs.Ytijppadieomnjaa.HT
open Go

theorem wp_gxAl {α : Type} {Q : α → Heap → Prop} {H : Heap} {y : List HV} {n : Nat} {f : List HV → M α} (hl : y.length = n) (h : wp (f y) Q H) : wp (gxN y 0 n f) Q H := by
  refine wp_gxNm (by omega) ?_
  rw [List.drop_zero, ← hl, List.take_length]; exact h
theorem wp_gxE {α : Type} {Q : α → Heap → Prop} {H : Heap} {y l : List HV} {o n : Nat} {f : List HV → M α} (hm : o + n ≤ y.length) (e : (y.drop o).take n = l) (h : wp (f l) Q H) : wp (gxN y o n f) Q H := by
  subst e; exact wp_gxNm hm h
theorem wp_gdQ {α : Type} {Q : α → Heap → Prop} {H : Heap} {a b : Nat} {m : M α} (e : a = b) (h : wp m Q H) : wp (gd (Nat.beq a b) m) Q H := wp_gd (by subst e; simp) h
theorem wp_gdL {α : Type} {Q : α → Heap → Prop} {H : Heap} {a b : Nat} {m : M α} (e : a ≤ b) (h : wp m Q H) : wp (gd (Nat.ble a b) m) Q H := wp_gd (Nat.ble_eq_true_of_le e) h
theorem wp_gxP {α : Type} {Q : α → Heap → Prop} {H : Heap} {z y : List HV} {n : Nat} {f : List HV → M α} (hz : z.length = n) (hl : y.length = n) (h : wp (f y) Q H) : wp (gxN (putN z 0 y) 0 n f) Q H := by
  rw [putN_full (by omega)]; exact wp_gxAl hl h
/-- ways out, in memory's order. -/
inductive WsL : List (List HV) → List Lo → Prop
  | nil : WsL [] []
  | snoc {L ws l o} (h : WsL L ws) (hl : LoL l o) : WsL (L ++ [l]) (o :: ws)
theorem WsL.len {L : List (List HV)} {ws : List Lo} (h : WsL L ws) : L.length = ws.length := by
  induction h with
  | nil => rfl
  | snoc h hl ih => simp [ih]
/-- what goes out behind: of the first i. -/
def outsO (o : Lo) (i : Nat) : Lo := { o with out := fun j => if j < i then o.out j ++ o.la j else o.out j }
/-- a block at its begin. -/
def begO (m : Lo) (at_ : Nat) (r : Nat → Int) : Lo := { m with la := fun _ => ByteArray.mk #[], r := r, pl := (at_ : Int) + 1 }
end Go.Proofs.Ytijppadieomnjaa.HT
