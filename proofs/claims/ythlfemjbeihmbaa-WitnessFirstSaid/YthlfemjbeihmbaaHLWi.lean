/- What the functions of the law's texts compute: the order. Conditions: none (lemmas). -/
import Derived.Test.YthlfemjbeihmbaaHLWh
namespace Go.Proofs.Ythlfemjbeihmbaa.HL
open Go

theorem repL_one (n : Nat) (x : HV) : repL n [x] = List.replicate n x := by cases n <;> rfl

/-- a slice of a function's own, of numbers: its block, its length. -/
structure Nums (H : Heap) (b : Nat) (w : List Int) : Prop where
  lt : b < H.n
  get : H.get b = .cells (w.map I) false
  len : w.length ≤ 9223372036854775807
def numSl (b : Nat) (n : Nat) : Sl := ⟨some (b, 0), n, n, none⟩
theorem Nums.ints {H : Heap} {b : Nat} {w : List Int} (h : Nums H b w) : Ints H (numSl b w.length) w := by
  refine ⟨by simp [numSl], by simpa using h.len, by simp [numSl], .inl rfl, by simp, .inr ⟨b, 0, _, false, rfl, h.lt, h.get, by simp, ?_⟩⟩
  have : ∀ w : List Int, (w.map fun x => [I x]).flatten = w.map I := by
    intro w
    induction w with
    | nil => rfl
    | cons x w ih => simp [ih]
  rw [this, List.drop_zero, List.length_map, Nat.mul_one, List.take_of_length_le (by simp)]
theorem Nums.set {H : Heap} {b : Nat} {w : List Int} (h : Nums H b w) (i : Nat) (v : Int) : Nums (H.set b (.cells ((w.map I).set i (I v)) false)) b (w.set i v) :=
  ⟨h.lt, by simp [Heap.set, List.map_set], by simpa using h.len⟩
section
variable {α : Type} {Q : α → Heap → Prop} {H : Heap}
/-- an element is read, and written. -/
theorem wp_numget {b : Nat} {w : List Int} (h : Nums H b w) {s : Sl} (hs : s = numSl b w.length) {i : Int} (h0 : 0 ≤ i) (hi : i.toNat < w.length) {g : Nat → Nat → HV → M α} (hg : ∀ b o, wp (g b o (I w[i.toNat])) Q H) :
    wp (ix s i 1 fun b o => ldC b o fun c => g b o c) Q H := by
  subst hs
  exact wp_ixC h.ints h0 (by simp [hi]) hg
theorem wp_numset {b : Nat} {w : List Int} (h : Nums H b w) {s : Sl} (hs : s = numSl b w.length) {i : Int} (h0 : 0 ≤ i) (hi : i.toNat < w.length) {v : Int} {m : M α}
    (hm : Nums (H.set b (.cells ((w.map I).set i.toNat (I v)) false)) b (w.set i.toNat v) → wp m Q (H.set b (.cells ((w.map I).set i.toNat (I v)) false))) :
    wp (ix s i 1 fun b o => stC b o (I v) m) Q H := by
  subst hs
  unfold ix
  refine wp_gd (by simpa using h0) (wp_gd (by show decide (i < (w.length : Int)) = true; simp only [decide_eq_true_eq]; omega) ?_)
  show wp (mP (some (b, 0)) _) Q H
  rw [mP_eq']
  refine wp_stC (o := 0 + i.toNat * 1) h.get (by simp only [List.length_map]; omega) rfl ?_
  rw [Nat.zero_add, Nat.mul_one]
  exact hm (h.set _ _)
end
end Go.Proofs.Ythlfemjbeihmbaa.HL
