/- Runs of the texts: memory of their own. Conditions: none (lemmas). -/
import Derived.Test.YtbphjihgbenkdaaGreatHLM
namespace Go.Proofs.YtbphjihgbenkdaaGreat.HL
open Go

/-- what was there is as it was. -/
structure Keeps (H H' : Heap) : Prop where
  n : H.n ≤ H'.n
  get : ∀ b, b < H.n → H'.get b = H.get b
theorem Keeps.refl (H : Heap) : Keeps H H := ⟨Nat.le_refl _, fun _ _ => rfl⟩
theorem Keeps.trans {H1 H2 H3 : Heap} (a : Keeps H1 H2) (b : Keeps H2 H3) : Keeps H1 H3 := ⟨Nat.le_trans a.n b.n, fun x hx => (b.get x (Nat.lt_of_lt_of_le hx a.n)).trans (a.get x hx)⟩
theorem Keeps.push (H : Heap) (o : HObj) : Keeps H (H.push o) := ⟨by simp [Heap.push], fun b hb => by simp only [Heap.push]; rw [if_neg (by omega)]⟩
theorem Keeps.set {H0 H : Heap} (h : Keeps H0 H) {b : Nat} (hb : H0.n ≤ b) (o : HObj) : Keeps H0 (H.set b o) := ⟨h.n, fun x hx => by simp only [Heap.set]; rw [if_neg (by omega)]; exact h.get x hx⟩
theorem SlR.keeps {H H' : Heap} {s : Sl} {sz : Nat} {ls : List (List HV)} (h : SlR H s sz ls) (k : Keeps H H') : SlR H' s sz ls :=
  ⟨h.len, h.lt, h.cap, h.opn, h.szs, by
    rcases h.mem with h1 | ⟨b, o, cs, ro, h1, h2, h3, h4⟩
    · exact .inl h1
    · exact .inr ⟨b, o, cs, ro, h1, Nat.lt_of_lt_of_le h2 k.n, by rw [k.get b h2]; exact h3, h4⟩⟩

/-- a slice that is being built, in memory newer than that of H0. -/
structure Own (H0 H : Heap) (s : Sl) (sz : Nat) (ls : List (List HV)) : Prop where
  keeps : Keeps H0 H
  szs : ∀ l ∈ ls, l.length = sz
  lt : ls.length ≤ 9223372036854775807
  mem : (s = ⟨none, 0, 0, none⟩ ∧ ls = []) ∨ ∃ b, s = ⟨some (b, 0), ls.length, ls.length, some sz⟩ ∧ H0.n ≤ b ∧ b < H.n ∧ H.get b = .cells ls.flatten false

theorem Own.nil {H0 H : Heap} (k : Keeps H0 H) (sz : Nat) : Own H0 H ⟨none, 0, 0, none⟩ sz [] := ⟨k, by simp, by simp, .inl ⟨rfl, rfl⟩⟩
/-- other memory is made. -/
theorem Own.keep {H0 H H' : Heap} {s : Sl} {sz : Nat} {ls : List (List HV)} (h : Own H0 H s sz ls) (k : Keeps H H') : Own H0 H' s sz ls :=
  ⟨h.keeps.trans k, h.szs, h.lt, by
    rcases h.mem with h1 | ⟨b, h1, h2, h3, h4⟩
    · exact .inl h1
    · exact .inr ⟨b, h1, h2, Nat.lt_of_lt_of_le h3 k.n, by rw [k.get b h3]; exact h4⟩⟩

/-- of memory that is not that of x. -/
def Sl.apart (s x : Sl) : Prop := ∀ b o, s.p = some (b, o) → x.p ≠ some (b, 0)
section
variable {α : Type} {Q : α → Heap → Prop} {H : Heap}
theorem wp_nw {cs : List HV} {f : Nat → M α} (h : wp (f H.n) Q (H.push (.cells cs false))) : wp (nw cs f) Q H := h
theorem wp_stC {b o : Nat} {v : HV} {m : M α} {cs : List HV} (hb : H.get b = .cells cs false) (ho : o < cs.length) (hv : v.sc = true) (h : wp m Q (H.set b (.cells (cs.set o v) false))) : wp (stC b o v m) Q H := by
  refine wp_of (m' := m) (fun n => ?_) h
  unfold stC
  simp only [hb]
  rw [show decide (o < cs.length) = true from by simpa using ho]
  cases v <;> first | rfl | cases hv

end
end Go.Proofs.YtbphjihgbenkdaaGreat.HL
namespace Go.Proofs.YtbphjihgbenkdaaGreat.HL
open Go

/-- the list's elements, as cells by f, read behind a slice. -/
def Rows {β : Type} (f : β → List HV) (sz : Nat) (H : Heap) (s : Sl) (l : List β) : Prop := SlR H s sz (l.map f)
section
variable {β : Type} {f : β → List HV} {sz : Nat} {H : Heap} {s : Sl} {l : List β}
theorem Rows.len (h : Rows f sz H s l) : s.len = l.length := by have := SlR.len h; simpa using this
theorem Rows.lt (h : Rows f sz H s l) : l.length ≤ 9223372036854775807 := by have := SlR.lt h; simpa using this
theorem Rows.at (_ : Rows f sz H s l) {i : Nat} (hi : i < l.length) : (l.map f)[((i : Nat) : Int).toNat]? = some (f l[i]) := by simp [hi]
theorem Rows.keeps {H' : Heap} (h : Rows f sz H s l) (k : Keeps H H') : Rows f sz H' s l := SlR.keeps h k
end
section
variable {α : Type} {Q : α → Heap → Prop} {H : Heap} {β : Type} {f : β → List HV} {sz : Nat} {s : Sl} {l : List β}
theorem wp_condD {p : Prop} [Decidable p] {x y : M α} (h1 : p → wp x Q H) (h2 : ¬ p → wp y Q H) : wp (cond (decide p) x y) Q H :=
  wp_cond (fun h => h1 (of_decide_eq_true h)) (fun h => h2 (of_decide_eq_false h))
theorem wp_condE {a b : Int} {x y : M α} (h1 : a = b → wp x Q H) (h2 : a ≠ b → wp y Q H) : wp (cond (a == b) x y) Q H :=
  wp_cond (fun h => h1 (by simpa using h)) (fun h => h2 (by simpa using h))
theorem wp_condNE {a b : Int} {x y : M α} (h1 : a ≠ b → wp x Q H) (h2 : a = b → wp y Q H) : wp (cond (a != b) x y) Q H :=
  wp_cond (fun h => h1 (by simpa using h)) (fun h => h2 (by simpa using h))
theorem wp_condN {b : Bool} {x y : M α} (h1 : b = false → wp x Q H) (h2 : b = true → wp y Q H) : wp (cond (!b) x y) Q H :=
  wp_cond (fun h => h1 (by simpa using h)) (fun h => h2 (by simpa using h))
theorem wp_gdD {p : Prop} [Decidable p] {m : M α} (hp : p) (h : wp m Q H) : wp (gd (decide p) m) Q H := wp_gd (decide_eq_true hp) h
end
section
variable {Q : Leaf → Heap → Prop} {H : Heap}
def PFor {σ : Type} (st : σ → Int → List HV) (P : Nat → σ → Heap → Prop) (i : Nat) (Q : Leaf → Heap → Prop) : Leaf → Heap → Prop := fun l H' => match l with
  | .norm vs => ∃ x', vs = st x' (wr ((i : Int) + 1)) ∧ P (i + 1) x' H'
  | l => Q l H'
/-- a counted loop. -/
theorem wp_for {σ : Type} (n : Nat) {len : Int} (hn : n ≤ 9223372036854775807) (hlen : len = (n : Int)) (st : σ → Int → List HV) {f : List HV → M Leaf} {id : Nat} {K : List HV → M Leaf} {B : σ → Int → M Leaf} {out : σ → List HV}
    (hf : ∀ x i, f (st x i) = cond (decide (i < len)) (B x i) (ret (.exit id (out x)))) (hid : Nat.beq id id = true) (P : Nat → σ → Heap → Prop) (x0 : σ) {vs : List HV} (hv : vs = st x0 0) (h0 : P 0 x0 H)
    (hb : ∀ i x H, i < n → P i x H → wp (B x i) (PFor st P i (PBlk id Q K)) H) (he : ∀ x H, P n x H → wp (K (out x)) Q H) : wp (blk id (loopD f vs) K) Q H := by
  refine wp_blk (wp_range (σ := σ) n (fun i x => st x i) P x0 hv h0 ?_ ?_)
  · intro i x H hi hp
    rw [hf, hlen]
    refine wp_cond (fun _ => (hb i x H hi hp).mono ?_) (fun hc => ?_)
    · intro l H' hl
      cases l with
      | norm vs =>
        obtain ⟨x', h1, h2⟩ := hl
        refine ⟨x', ?_, h2⟩
        rw [h1, wr_small (by omega) (by omega)]; rfl
      | exit j vs => exact hl
      | ret vs => exact hl
    · have := of_decide_eq_false hc
      omega
  · intro x H hp
    rw [hf, hlen]
    refine wp_cond (fun hc => ?_) (fun _ => wp_ret ?_)
    · have := of_decide_eq_true hc
      omega
    · show PBlk id Q K (.exit id (out x)) H
      unfold PBlk
      simp only [hid]
      exact he x H hp
end
/-- all of the first ones, and one more. -/
theorem take_snoc {β : Type} {l : List β} {p : β → Prop} {i : Nat} (hi : i < l.length) (h : ∀ x ∈ l.take i, p x) (h1 : p l[i]) : ∀ x ∈ l.take (i + 1), p x := by
  rw [List.take_succ_eq_append_getElem hi]
  intro x hx
  rcases List.mem_append.1 hx with hx | hx
  · exact h x hx
  · simp at hx; subst hx; exact h1
end Go.Proofs.YtbphjihgbenkdaaGreat.HL
