/- Runs of the texts: memory of their own. Conditions: none (lemmas). -/
import Derived.Test.YtmfmcegpoiinjaaDoorHMM
namespace Go.Proofs.YtmfmcegpoiinjaaDoor.HM
open Go

/-- what was there is as it was. -/
structure Keeps (H H' : Heap) : Prop where
  n : H.n ≤ H'.n
  get : ∀ b, b < H.n → H'.get b = H.get b
theorem Keeps.refl (H : Heap) : Keeps H H := ⟨Nat.le_refl _, fun _ _ => rfl⟩
theorem Keeps.trans {H1 H2 H3 : Heap} (a : Keeps H1 H2) (b : Keeps H2 H3) : Keeps H1 H3 := ⟨Nat.le_trans a.n b.n, fun x hx => (b.get x (Nat.lt_of_lt_of_le hx a.n)).trans (a.get x hx)⟩
theorem Keeps.push (H : Heap) (o : HObj) : Keeps H (H.push o) := ⟨by simp [Heap.push], fun b hb => by simp only [Heap.push]; rw [if_neg (by omega)]⟩
theorem Keeps.set {H0 H : Heap} (h : Keeps H0 H) {b : Nat} (hb : H0.n ≤ b) (o : HObj) : Keeps H0 (H.set b o) := ⟨h.n, fun x hx => by simp only [Heap.set]; rw [if_neg (by omega)]; exact h.get x hx⟩
theorem SlR.keeps {H H' : Heap} {s : Sl} {sz : Nat} {ls : List (List HV)} (h : SlR H s sz ls) (k : Keeps H H') : SlR H' s sz ls :=
  ⟨h.len, h.lt, h.cap, h.opn, h.szs, by
    rcases h.mem with h1 | ⟨b, o, cs, ro, h1, h2, h3, h4⟩
    · exact .inl h1
    · exact .inr ⟨b, o, cs, ro, h1, Nat.lt_of_lt_of_le h2 k.n, by rw [k.get b h2]; exact h3, h4⟩⟩

/-- a slice that is being built, in memory newer than that of H0. -/
structure Own (H0 H : Heap) (s : Sl) (sz : Nat) (ls : List (List HV)) : Prop where
  keeps : Keeps H0 H
  szs : ∀ l ∈ ls, l.length = sz
  lt : ls.length ≤ 9223372036854775807
  mem : (s = ⟨none, 0, 0, none⟩ ∧ ls = []) ∨ ∃ b, s = ⟨some (b, 0), ls.length, ls.length, some sz⟩ ∧ H0.n ≤ b ∧ b < H.n ∧ H.get b = .cells ls.flatten false

theorem Own.nil {H0 H : Heap} (k : Keeps H0 H) (sz : Nat) : Own H0 H ⟨none, 0, 0, none⟩ sz [] := ⟨k, by simp, by simp, .inl ⟨rfl, rfl⟩⟩
theorem Own.slR {H0 H : Heap} {s : Sl} {sz : Nat} {ls : List (List HV)} (h : Own H0 H s sz ls) : SlR H s sz ls := by
  rcases h.mem with ⟨rfl, rfl⟩ | ⟨b, rfl, h1, h2, h3⟩
  · exact ⟨rfl, by simp, Nat.le_refl _, .inl rfl, by simp, .inl ⟨rfl, rfl⟩⟩
  · have hl := flatten_length h.szs
    refine ⟨rfl, h.lt, Nat.le_refl _, .inr rfl, h.szs, .inr ⟨b, 0, _, false, rfl, h2, h3, by omega, ?_⟩⟩
    rw [List.drop_zero, ← hl, List.take_length]
theorem Own.weaken {H0 H1 H : Heap} {s : Sl} {sz : Nat} {ls : List (List HV)} (h : Own H1 H s sz ls) (k : Keeps H0 H1) : Own H0 H s sz ls :=
  ⟨k.trans h.keeps, h.szs, h.lt, by
    rcases h.mem with h1 | ⟨b, h1, h2, h3⟩
    · exact .inl h1
    · exact .inr ⟨b, h1, Nat.le_trans k.n h2, h3⟩⟩
/-- other memory is made. -/
theorem Own.keep {H0 H H' : Heap} {s : Sl} {sz : Nat} {ls : List (List HV)} (h : Own H0 H s sz ls) (k : Keeps H H') : Own H0 H' s sz ls :=
  ⟨h.keeps.trans k, h.szs, h.lt, by
    rcases h.mem with h1 | ⟨b, h1, h2, h3, h4⟩
    · exact .inl h1
    · exact .inr ⟨b, h1, h2, Nat.lt_of_lt_of_le h3 k.n, by rw [k.get b h3]; exact h4⟩⟩

/-- of memory that is not that of x. -/
def Sl.apart (s x : Sl) : Prop := ∀ b o, s.p = some (b, o) → x.p ≠ some (b, 0)
section
variable {α : Type} {Q : α → Heap → Prop} {H : Heap}
theorem wp_nw {cs : List HV} {f : Nat → M α} (h : wp (f H.n) Q (H.push (.cells cs false))) : wp (nw cs f) Q H := h
theorem wp_stC {b o : Nat} {v : HV} {m : M α} {cs : List HV} (hb : H.get b = .cells cs false) (ho : o < cs.length) (hv : v.sc = true) (h : wp m Q (H.set b (.cells (cs.set o v) false))) : wp (stC b o v m) Q H := by
  refine wp_of (m' := m) (fun n => ?_) h
  unfold stC
  simp only [hb]
  rw [show decide (o < cs.length) = true from by simpa using ho]
  cases v <;> first | rfl | cases hv

end
end Go.Proofs.YtmfmcegpoiinjaaDoor.HM
namespace Go.Proofs.YtmfmcegpoiinjaaDoor.HM
open Go

/-- the list's elements, as cells by f, read behind a slice. -/
def Rows {β : Type} (f : β → List HV) (sz : Nat) (H : Heap) (s : Sl) (l : List β) : Prop := SlR H s sz (l.map f)
section
variable {β : Type} {f : β → List HV} {sz : Nat} {H : Heap} {s : Sl} {l : List β}
theorem Rows.len (h : Rows f sz H s l) : s.len = l.length := by have := SlR.len h; simpa using this
theorem Rows.lenI (h : Rows f sz H s l) : (s.len : Int) = (l.length : Int) := by rw [h.len]
theorem Rows.lt (h : Rows f sz H s l) : l.length ≤ 9223372036854775807 := by have := SlR.lt h; simpa using this
theorem Rows.at (_ : Rows f sz H s l) {i : Nat} (hi : i < l.length) : (l.map f)[((i : Nat) : Int).toNat]? = some (f l[i]) := by simp [hi]
theorem Rows.keeps {H' : Heap} (h : Rows f sz H s l) (k : Keeps H H') : Rows f sz H' s l := SlR.keeps h k
theorem Rows.pre (h : Rows f sz H s l) {i : Nat} (hi : i ≤ l.length) : Rows f sz H (s.pre sz i) (l.take i) := by
  have := SlR.pre h (i := i) (by simpa using hi)
  rw [← List.map_take] at this
  exact this
end
section
variable {α : Type} {Q : α → Heap → Prop} {H : Heap} {β : Type} {f : β → List HV} {sz : Nat} {s : Sl} {l : List β}
/-- an element is read. -/
theorem wp_at (h : Rows f sz H s l) {i : Nat} (hi : i < l.length) {g : Nat → Nat → List HV → M α} (hg : ∀ b o, wp (g b o (f l[i])) Q H) : wp (ix s (i : Int) sz fun b o => ldN b o sz fun cs => g b o cs) Q H :=
  wp_ixN h (by omega) (h.at hi) hg
theorem wp_condD {p : Prop} [Decidable p] {x y : M α} (h1 : p → wp x Q H) (h2 : ¬ p → wp y Q H) : wp (cond (decide p) x y) Q H :=
  wp_cond (fun h => h1 (of_decide_eq_true h)) (fun h => h2 (of_decide_eq_false h))
theorem wp_condE {a b : Int} {x y : M α} (h1 : a = b → wp x Q H) (h2 : a ≠ b → wp y Q H) : wp (cond (a == b) x y) Q H :=
  wp_cond (fun h => h1 (by simpa using h)) (fun h => h2 (by simpa using h))
theorem wp_condNE {a b : Int} {x y : M α} (h1 : a ≠ b → wp x Q H) (h2 : a = b → wp y Q H) : wp (cond (a != b) x y) Q H :=
  wp_cond (fun h => h1 (by simpa using h)) (fun h => h2 (by simpa using h))
theorem wp_condN {b : Bool} {x y : M α} (h1 : b = false → wp x Q H) (h2 : b = true → wp y Q H) : wp (cond (!b) x y) Q H :=
  wp_cond (fun h => h1 (by simpa using h)) (fun h => h2 (by simpa using h))
theorem wp_gdD {p : Prop} [Decidable p] {m : M α} (hp : p) (h : wp m Q H) : wp (gd (decide p) m) Q H := wp_gd (decide_eq_true hp) h
end
section
variable {Q : Leaf → Heap → Prop} {H : Heap}
theorem wp_jnB {m : M Leaf} {K : List HV → M Leaf} (p : Prop) (hm : wp m (fun lf H' => ∃ b : Bool, lf = .norm [.bool b] ∧ (b = true ↔ p) ∧ H' = H) H) (h : ∀ b : Bool, (b = true ↔ p) → wp (K [.bool b]) Q H) : wp (jn m K) Q H := by
  refine wp_jn (hm.mono ?_)
  rintro _ H' ⟨b, rfl, hb, rfl⟩
  exact h b hb
def PFor {σ : Type} (st : σ → Int → List HV) (P : Nat → σ → Heap → Prop) (i : Nat) (Q : Leaf → Heap → Prop) : Leaf → Heap → Prop := fun l H' => match l with
  | .norm vs => ∃ x', vs = st x' (wr ((i : Int) + 1)) ∧ P (i + 1) x' H'
  | l => Q l H'
/-- a counted loop. -/
theorem wp_for {σ : Type} (n : Nat) {len : Int} (hn : n ≤ 9223372036854775807) (hlen : len = (n : Int)) (st : σ → Int → List HV) {f : List HV → M Leaf} {id : Nat} {K : List HV → M Leaf} {B : σ → Int → M Leaf} {out : σ → List HV}
    (hf : ∀ x i, f (st x i) = cond (decide (i < len)) (B x i) (ret (.exit id (out x)))) (hid : Nat.beq id id = true) (P : Nat → σ → Heap → Prop) (x0 : σ) {vs : List HV} (hv : vs = st x0 0) (h0 : P 0 x0 H)
    (hb : ∀ i x H, i < n → P i x H → wp (B x i) (PFor st P i (PBlk id Q K)) H) (he : ∀ x H, P n x H → wp (K (out x)) Q H) : wp (blk id (loopD f vs) K) Q H := by
  refine wp_blk (wp_range (σ := σ) n (fun i x => st x i) P x0 hv h0 ?_ ?_)
  · intro i x H hi hp
    rw [hf, hlen]
    refine wp_cond (fun _ => (hb i x H hi hp).mono ?_) (fun hc => ?_)
    · intro l H' hl
      cases l with
      | norm vs =>
        obtain ⟨x', h1, h2⟩ := hl
        refine ⟨x', ?_, h2⟩
        rw [h1, wr_small (by omega) (by omega)]; rfl
      | exit j vs => exact hl
      | ret vs => exact hl
    · have := of_decide_eq_false hc
      omega
  · intro x H hp
    rw [hf, hlen]
    refine wp_cond (fun hc => ?_) (fun _ => wp_ret ?_)
    · have := of_decide_eq_true hc
      omega
    · show PBlk id Q K (.exit id (out x)) H
      unfold PBlk
      simp only [hid]
      exact he x H hp
/-- the same, with no more than the counter, and the same memory. -/
theorem wp_for0 (n : Nat) {len : Int} (hn : n ≤ 9223372036854775807) (hlen : len = (n : Int)) {f : List HV → M Leaf} {id : Nat} {K : List HV → M Leaf} {B : Int → M Leaf} {out : List HV}
    (hf : ∀ i, f [I i] = cond (decide (i < len)) (B i) (ret (.exit id out))) (hid : Nat.beq id id = true) (P : Nat → Prop) (h0 : P 0)
    (hb : ∀ i, i < n → P i → wp (B i) (fun lf H' => match lf with | .norm vs => vs = [I (wr ((i : Int) + 1))] ∧ P (i + 1) ∧ H' = H | l => PBlk id Q K l H') H) (he : P n → wp (K out) Q H) : wp (blk id (loopD f [I 0]) K) Q H := by
  refine wp_for (σ := Unit) n hn hlen (fun _ i => [I i]) (B := fun _ i => B i) (out := fun _ => out) (fun _ i => hf i) hid (fun i _ H' => P i ∧ H' = H) () rfl ⟨h0, rfl⟩ ?_ ?_
  · rintro i _ H' hi ⟨hp, rfl⟩
    refine (hb i hi hp).mono ?_
    intro l H2 hl
    cases l with
    | norm vs => exact ⟨(), hl.1, hl.2⟩
    | exit j vs => exact hl
    | ret vs => exact hl
  · rintro _ H' ⟨hp, rfl⟩
    exact he hp
end
end Go.Proofs.YtmfmcegpoiinjaaDoor.HM
