/- Numbers of a function's own; flags. Conditions: none (lemmas). -/
import Derived.Test.YtolchnaegifckaaHSMc
namespace Go.Proofs.Ytolchnaegifckaa.HS
open Go
def Ints (H : Heap) (s : Sl) (l : List Int) : Prop := SlR H s 1 (l.map fun x => [I x])
theorem repL_one (n : Nat) (x : HV) : repL n [x] = List.replicate n x := by cases n <;> rfl

/-- a slice of a function's own, of numbers: its block, its length. -/
structure Nums (H : Heap) (b : Nat) (w : List Int) : Prop where
  lt : b < H.n
  get : H.get b = .cells (w.map I) false
  len : w.length ≤ 9223372036854775807
def numSl (b : Nat) (n : Nat) : Sl := ⟨some (b, 0), n, n, none⟩
theorem Nums.ints {H : Heap} {b : Nat} {w : List Int} (h : Nums H b w) : Ints H (numSl b w.length) w := by
  refine ⟨by simp [numSl], by simpa using h.len, by simp [numSl], .inl rfl, by simp, .inr ⟨b, 0, _, false, rfl, h.lt, h.get, by simp, ?_⟩⟩
  have : ∀ w : List Int, (w.map fun x => [I x]).flatten = w.map I := by
    intro w
    induction w with
    | nil => rfl
    | cons x w ih => simp [ih]
  rw [this, List.drop_zero, List.length_map, Nat.mul_one, List.take_of_length_le (by simp)]
theorem Nums.set {H : Heap} {b : Nat} {w : List Int} (h : Nums H b w) (i : Nat) (v : Int) : Nums (H.set b (.cells ((w.map I).set i (I v)) false)) b (w.set i v) :=
  ⟨h.lt, by simp [Heap.set, List.map_set], by simpa using h.len⟩
section
variable {α : Type} {Q : α → Heap → Prop} {H : Heap}
theorem wp_numset {b : Nat} {w : List Int} (h : Nums H b w) {s : Sl} (hs : s = numSl b w.length) {i : Int} (h0 : 0 ≤ i) (hi : i.toNat < w.length) {v : Int} {m : M α}
    (hm : Nums (H.set b (.cells ((w.map I).set i.toNat (I v)) false)) b (w.set i.toNat v) → wp m Q (H.set b (.cells ((w.map I).set i.toNat (I v)) false))) :
    wp (ix s i 1 fun b o => stC b o (I v) m) Q H := by
  subst hs
  unfold ix
  refine wp_gd (by simpa using h0) (wp_gd (by show decide (i < (w.length : Int)) = true; simp only [decide_eq_true_eq]; omega) ?_)
  show wp (mP (some (b, 0)) _) Q H
  rw [mP_eq']
  refine wp_stC (o := 0 + i.toNat * 1) h.get (by simp only [List.length_map]; omega) rfl ?_
  rw [Nat.zero_add, Nat.mul_one]
  exact hm (h.set _ _)
end
theorem set_eq_of {w w' : List Int} {n k : Nat} {v : Int} (hw : w.length = n) (hw' : w'.length = n) (hk : k < n) (h1 : w'[k]? = some v) (h2 : ∀ j, j < n → j ≠ k → w'[j]? = w[j]?) : w.set k v = w' := by
  apply List.ext_getElem?
  intro j
  by_cases hj : j = k
  · subst hj; rw [List.getElem?_set_self (by omega), h1]
  · rw [List.getElem?_set_ne (Ne.symm hj)]
    by_cases hjn : j < n
    · exact (h2 j hjn hj).symm
    · rw [List.getElem?_eq_none (by omega), List.getElem?_eq_none (by omega)]


/-- a row that was just made. -/
theorem slr_push {H : Heap} {cs : List HV} {sz n : Nat} (ls : List (List HV)) (hn : n = ls.length) (hc : cs = ls.flatten) (hz : ∀ l ∈ ls, l.length = sz) (hl : ls.length ≤ 1000000) : SlR (H.push (.cells cs false)) ⟨some (H.n, 0), n, n, none⟩ sz ls := by
  subst hn; subst hc
  refine ⟨rfl, by omega, Nat.le_refl _, .inl rfl, hz, .inr ⟨H.n, 0, ls.flatten, false, rfl, by simp [Heap.push], by simp [Heap.push], ?_, ?_⟩⟩
  · rw [flatten_length hz]; omega
  · rw [List.drop_zero, ← flatten_length hz, List.take_length]
theorem rows_nil {β : Type} {f : β → List HV} {sz : Nat} {H : Heap} : Rows f sz H ⟨none, 0, 0, none⟩ [] := ⟨rfl, by simp, Nat.le_refl _, .inl rfl, by simp, .inl ⟨rfl, rfl⟩⟩
theorem rints_one {H : Heap} {a : Int} : RInts (H.push (.cells [I a] false)) ⟨some (H.n, 0), 1, 1, none⟩ [a] := slr_push _ rfl rfl (by simp) (by simp)
theorem rints_two {H : Heap} {a b : Int} : RInts (H.push (.cells [I a, I b] false)) ⟨some (H.n, 0), 2, 2, none⟩ [a, b] := slr_push _ rfl rfl (by simp) (by simp)
theorem Nums.rints {H : Heap} {b : Nat} {w : List Int} (h : Nums H b w) : RInts H (numSl b w.length) w := h.ints
end Go.Proofs.Ytolchnaegifckaa.HS
