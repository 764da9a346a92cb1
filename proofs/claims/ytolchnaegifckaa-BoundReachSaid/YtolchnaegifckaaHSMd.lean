/- Programs, and whether they can be: the document's word and the program's are one. Conditions: numbers are of 64 bits (plain lemmas). -/
import Derived.Test.YtolchnaegifckaaHSMc
namespace Go.Proofs.Ytolchnaegifckaa.HS
open Go

structure Ins where
  op : Int
  a : Int
  b : Int
  c : Int
deriving DecidableEq
abbrev Ins.cs (x : Ins) : List HV := [I x.op, I x.a, I x.b, I x.c]
abbrev RProg := Rows Ins.cs 4

/-- the Begin of the block that is open ahead of a place; -1: none is. -/
def opn (p : List Ins) : Nat → Int
  | 0 => -1
  | i + 1 => match p[i]? with
    | some x => if x.op = 4 then (i : Int) else if x.op = 5 then -1 else opn p i
    | none => opn p i
/-- the Begin of the block in which an instruction stands. -/
def Blk (p : List Ins) (i : Nat) : Int := match p[i]? with
  | some x => if x.op = 4 then -1 else opn p i
  | none => -1
def sureR (p : List Ins) : Nat → Bool
  | 0 => false
  | i + 1 => match p[i]? with
    | some x => if x.op = 4 then false else if x.op = 21 then true else sureR p i
    | none => sureR p i
def waysR (p : List Ins) : Nat → Nat
  | 0 => 0
  | i + 1 => match p[i]? with
    | some x => if x.op = 4 then 0 else if x.op = 20 then waysR p i + 1 else waysR p i
    | none => waysR p i
theorem opn_succ {p : List Ins} {i : Nat} (hi : i < p.length) : opn p (i + 1) = if (p[i]).op = 4 then (i : Int) else if (p[i]).op = 5 then -1 else opn p i := by
  simp only [opn, List.getElem?_eq_getElem hi]
theorem sureR_succ {p : List Ins} {i : Nat} (hi : i < p.length) : sureR p (i + 1) = if (p[i]).op = 4 then false else if (p[i]).op = 21 then true else sureR p i := by
  simp only [sureR, List.getElem?_eq_getElem hi]
theorem waysR_succ {p : List Ins} {i : Nat} (hi : i < p.length) : waysR p (i + 1) = if (p[i]).op = 4 then 0 else if (p[i]).op = 20 then waysR p i + 1 else waysR p i := by
  simp only [waysR, List.getElem?_eq_getElem hi]
theorem Blk_eq {p : List Ins} {i : Nat} (hi : i < p.length) : Blk p i = if (p[i]).op = 4 then -1 else opn p i := by
  simp only [Blk, List.getElem?_eq_getElem hi]
theorem opn_lt (p : List Ins) (i : Nat) : opn p i < i := by
  induction i with
  | zero => simp [opn]
  | succ i ih =>
    unfold opn
    split
    · split
      · omega
      · split <;> omega
    · omega
theorem opn_ge (p : List Ins) (i : Nat) : -1 ≤ opn p i := by
  induction i with
  | zero => simp [opn]
  | succ i ih =>
    unfold opn
    split
    · split
      · omega
      · split <;> omega
    · omega
/-- closed blocks, none in another one. -/
def Shaped (p : List Ins) : Prop := (∀ i (hi : i < p.length), ((p[i]).op = 4 → opn p i < 0) ∧ ((p[i]).op = 5 → 0 ≤ opn p i)) ∧ opn p p.length < 0

def loI : Int := -9223372036854775808
def hiI : Int := 9223372036854775807
/-- the limits of an op's fields. -/
def lims (op : Int) : Option (List Int) :=
  if op = 0 ∨ op = 4 ∨ op = 5 ∨ op = 19 ∨ op = 21 then some [0, 0, 0, 0, 0, 0]
  else if op = 1 then some [0, 3, loI, hiI, 0, 0]
  else if op = 2 then some [0, 3, 0, 3, 0, 0]
  else if op = 3 then some [loI, hiI, 0, 3, 0, 2]
  else if op = 6 then some [0, 3, 0, 7, 0, 0]
  else if op = 7 then some [0, 7, 0, 3, 0, 0]
  else if op = 8 then some [0, 3, 0, 5, 0, 31]
  else if op = 9 then some [0, 5, 0, 31, 0, 3]
  else if op = 10 ∨ op = 11 then some [0, 5, 0, 0, 0, 0]
  else if op = 12 then some [0, 5, 0, 5, 0, 0]
  else if op = 13 then some [0, 5, 0, 32, 0, 0]
  else if op = 14 then some [0, 3, 0, 2, 0, 0]
  else if op = 15 then some [0, 2, 0, 3, 0, 0]
  else if op = 16 then some [0, 2, 0, 255, 0, 0]
  else if op = 17 then some [0, 255, 0, 0, 0, 0]
  else if op = 18 then some [0, 3, -100, 100, 0, 0]
  else if op = 20 then some [loI, hiI, 0, 0, 0, 0]
  else none
def inside (x : Ins) : List Int → Prop
  | [a0, a1, b0, b1, c0, c1] => a0 ≤ x.a ∧ x.a ≤ a1 ∧ b0 ≤ x.b ∧ x.b ≤ b1 ∧ c0 ≤ x.c ∧ x.c ≤ c1
  | _ => False
/-- what an instruction names can be. -/
def Fits (x : Ins) : Prop := (∃ l, lims x.op = some l ∧ inside x l) ∧ ¬ (x.op = 12 ∧ x.a = x.b)

/-- an instruction can be, and stand there. -/
structure OneI (p : List Ins) (i : Nat) (x : Ins) (at_ : Int) : Prop where
  fits : Fits x
  out : x.op = 0 ∨ x.op = 4 → at_ < 0
  ins : 4 < x.op → 0 ≤ at_
  goal : x.op = 3 ∨ x.op = 20 → (i : Int) < x.a ∧ x.a ≤ p.length ∧ (x.a = p.length → at_ < 0) ∧ (x.a < p.length → Blk p x.a.toNat = at_)
  sure : x.op = 14 ∨ x.op = 19 ∨ x.op = 20 ∨ x.op = 21 → ∀ k (hk : k < p.length), at_ < (k : Int) → k < i → (p[k]).op ≠ 21
  ways : x.op = 20 → ((p.take i).drop (at_ + 1).toNat).countP (fun y => decide (y.op = 20)) < 3
/-- a program can be. -/
structure CanB (p : List Ins) : Prop where
  len : p.length ≤ 48
  shaped : Shaped p
  one : ∀ i (hi : i < p.length), OneI p i p[i] (Blk p i)

/-- an instruction is let by the program. -/
def GoodI (p : List Ins) (i : Nat) (x : Ins) : Prop :=
  Fits x ∧ ((x.op = 0 ∨ x.op = 4 → opn p i < 0) ∧ (4 < x.op → 0 ≤ opn p i)) ∧
  (x.op = 3 ∨ x.op = 20 → (i : Int) < x.a ∧ x.a ≤ p.length ∧ (x.a = p.length → opn p i < 0) ∧ (x.a < p.length → opn p x.a.toNat = opn p i)) ∧
  ¬ (x.op = 20 ∧ 3 ≤ waysR p i) ∧ ¬ (sureR p i = true ∧ (x.op = 14 ∨ x.op = 19 ∨ x.op = 20 ∨ x.op = 21))
structure CanC (p : List Ins) : Prop where
  len : p.length ≤ 48
  shaped : Shaped p
  good : ∀ i (hi : i < p.length), GoodI p i p[i]

theorem sure_iff {p : List Ins} : ∀ {i : Nat}, i ≤ p.length → 0 ≤ opn p i → (sureR p i = true ↔ ∃ k, ∃ hk : k < p.length, opn p i < (k : Int) ∧ k < i ∧ (p[k]).op = 21)
  | 0, _, h => by simp [opn] at h
  | i + 1, hi, h => by
    have hi' : i < p.length := hi
    rw [opn_succ hi'] at h ⊢
    rw [sureR_succ hi']
    by_cases h4 : (p[i]).op = 4
    · rw [if_pos h4, if_pos h4]
      constructor
      · intro h; cases h
      · rintro ⟨k, hk, h1, h2, _⟩; omega
    · rw [if_neg h4] at h ⊢
      rw [if_neg h4]
      by_cases h5 : (p[i]).op = 5
      · rw [if_pos h5] at h; omega
      · rw [if_neg h5] at h ⊢
        have ih := sure_iff (i := i) (by omega) h
        have hlt := opn_lt p i
        by_cases h21 : (p[i]).op = 21
        · rw [if_pos h21]
          exact ⟨fun _ => ⟨i, hi', hlt, by omega, h21⟩, fun _ => rfl⟩
        · rw [if_neg h21, ih]
          constructor
          · rintro ⟨k, hk, h1, h2, h3⟩; exact ⟨k, hk, h1, by omega, h3⟩
          · rintro ⟨k, hk, h1, h2, h3⟩
            by_cases hki : k = i
            · subst hki; exact absurd h3 h21
            · exact ⟨k, hk, h1, by omega, h3⟩
theorem ways_eq {p : List Ins} : ∀ {i : Nat}, i ≤ p.length → 0 ≤ opn p i → waysR p i = ((p.take i).drop (opn p i + 1).toNat).countP (fun y => decide (y.op = 20))
  | 0, _, h => by simp [opn] at h
  | i + 1, hi, h => by
    have hi' : i < p.length := hi
    rw [opn_succ hi'] at h ⊢
    rw [waysR_succ hi']
    by_cases h4 : (p[i]).op = 4
    · rw [if_pos h4, if_pos h4]
      rw [List.drop_eq_nil_of_le (by simp; omega)]; rfl
    · rw [if_neg h4] at h ⊢
      rw [if_neg h4]
      by_cases h5 : (p[i]).op = 5
      · rw [if_pos h5] at h; omega
      · rw [if_neg h5] at h ⊢
        have ih := ways_eq (i := i) (by omega) h
        have hlt := opn_lt p i
        rw [List.take_succ_eq_append_getElem hi', List.drop_append_of_le_length (by simp; omega), List.countP_append, ← ih]
        simp only [List.countP_singleton, decide_eq_true_eq]
        by_cases h20 : (p[i]).op = 20
        · rw [if_pos h20, if_pos h20]
        · rw [if_neg h20, if_neg h20]; rfl

/-- the program's word on a place is the document's, where all up to there are shaped. -/
theorem good_iff {p : List Ins} (hs : Shaped p) {i : Nat} (hi : i < p.length) : GoodI p i p[i] ↔ OneI p i p[i] (Blk p i) := by
  have hB := Blk_eq hi
  have hlt := opn_lt p i
  have hge := opn_ge p i
  have h4 := (hs.1 i hi).1
  have hblk : ∀ k, k < p.length → opn p k = Blk p k ∨ (∃ h : k < p.length, (p[k]).op = 4) ∧ Blk p k = -1 ∧ opn p k = -1 := by
    intro k hk
    by_cases hk4 : (p[k]).op = 4
    · have h1 := (hs.1 k hk).1 hk4
      have h2 := opn_ge p k
      refine .inr ⟨⟨hk, hk4⟩, ?_, by omega⟩
      rw [Blk_eq hk, if_pos hk4]
    · left; rw [Blk_eq hk, if_neg hk4]
  have hsame : ∀ k, k < p.length → opn p k = Blk p k := by
    intro k hk
    rcases hblk k hk with h | ⟨_, h1, h2⟩
    · exact h
    · omega
  have hBi := hsame i hi
  have tgt : (p[i]).a < p.length → (i : Int) < (p[i]).a → opn p (p[i]).a.toNat = Blk p (p[i]).a.toNat := fun h1 h2 => hsame _ (by omega)
  unfold GoodI
  rw [← hBi]
  constructor
  · rintro ⟨g1, ⟨g2, g3⟩, g4, g5, g6⟩
    refine ⟨g1, g2, g3, fun h => ?_, fun h k hk h1 h2 h3 => ?_, fun h => ?_⟩
    · obtain ⟨a1, a2, a3, a4⟩ := g4 h
      exact ⟨a1, a2, a3, fun h5 => by rw [← tgt h5 a1]; exact a4 h5⟩
    · have h0 := g3 (by omega)
      exact g6 ⟨(sure_iff (by omega) h0).2 ⟨k, hk, h1, h2, h3⟩, h⟩
    · have h0 := g3 (by omega)
      rw [← ways_eq (by omega) h0]
      apply Classical.byContradiction
      intro hh; exact g5 ⟨h, by omega⟩
  · rintro ⟨o1, o2, o3, o4, o5, o6⟩
    refine ⟨o1, ⟨o2, o3⟩, fun h => ?_, ?_, ?_⟩
    · obtain ⟨a1, a2, a3, a4⟩ := o4 h
      exact ⟨a1, a2, a3, fun h5 => by rw [tgt h5 a1]; exact a4 h5⟩
    · rintro ⟨h, h3⟩
      have h0 := o3 (by omega)
      have := o6 h
      rw [← ways_eq (by omega) h0] at this
      omega
    · rintro ⟨h, h3⟩
      have h0 := o3 (by omega)
      obtain ⟨k, hk, h1, h2, h4⟩ := (sure_iff (by omega) h0).1 h
      exact o5 h3 k hk h1 h2 h4
theorem canC_iff {p : List Ins} : CanC p ↔ CanB p :=
  ⟨fun h => ⟨h.len, h.shaped, fun i hi => (good_iff h.shaped hi).1 (h.good i hi)⟩, fun h => ⟨h.len, h.shaped, fun i hi => (good_iff h.shaped hi).2 (h.one i hi)⟩⟩
end Go.Proofs.Ytolchnaegifckaa.HS
namespace Go.Proofs.Ytolchnaegifckaa.HS
open Go

section
variable {α : Type} {Q : α → Heap → Prop} {H : Heap} {β : Type} {f : β → List HV} {sz : Nat} {s : Sl} {l : List β}
/-- one field of an element is read. -/
theorem wp_atF (h : Rows f sz H s l) {i : Nat} (hi : i < l.length) {k : Nat} {v : HV} (hk : (f l[i])[k]? = some v) {g : Nat → Nat → HV → M α} (hg : ∀ b o, wp (g b o v) Q H) : wp (ix s (i : Int) sz fun b o => ldC b (o + k) fun c => g b o c) Q H := by
  have hh : SlR H s sz (l.map f) := h
  obtain ⟨b, o, cs, ro, h1, h2, h3, h4⟩ := hh.at (i := i) (l := f l[i]) (by simp [hi])
  have hsz : (f l[i]).length = sz := hh.szs _ (List.mem_map.2 ⟨_, List.getElem_mem hi, rfl⟩)
  have hksz : k < sz := by rw [← hsz]; exact (List.getElem?_eq_some_iff.1 hk).1
  unfold ix
  refine wp_gd (by simp) (wp_gd (by rw [h.len]; simp; omega) ?_)
  rw [h1, mP_eq']
  refine wp_of (m' := g b (o + (i : Int).toNat * sz) v) (fun n => ?_) (hg _ _)
  unfold ldC
  simp only [h2]
  unfold gx
  have : cs[o + (i : Int).toNat * sz + k]? = some v := by
    rw [← hk, ← h4, List.getElem?_take, if_pos hksz, List.getElem?_drop]; simp
  rw [this]
end
theorem wp_condT {α : Type} {Q : α → Heap → Prop} {H : Heap} {x y : M α} (h : wp x Q H) : wp (cond true x y) Q H := h
theorem wp_condF {α : Type} {Q : α → Heap → Prop} {H : Heap} {x y : M α} (h : wp y Q H) : wp (cond false x y) Q H := h
theorem wp_condNT {α : Type} {Q : α → Heap → Prop} {H : Heap} {x y : M α} (h : wp y Q H) : wp (cond (!true) x y) Q H := h
theorem wp_condNF {α : Type} {Q : α → Heap → Prop} {H : Heap} {x y : M α} (h : wp x Q H) : wp (cond (!false) x y) Q H := h
def PFin (Q : HV → Heap → Prop) : Leaf → Heap → Prop := fun l H' => match l with
  | .ret [v] => Q v H'
  | .ret vs => Q (.tup vs) H'
  | _ => False
section
variable {H : Heap} {Q : HV → Heap → Prop} {R : Leaf → Heap → Prop} {K : List HV → M Leaf} {id : Nat} {vs : List HV}
theorem wp_finF {m : M Leaf} (h : wp m (PFin Q) H) : wp (fin m) Q H := wp_fin h
theorem wp_rF {v : HV} (h : Q v H) : wp (ret (.ret [v])) (PFin Q) H := wp_ret h
theorem wp_rF0 (h : Q (.tup []) H) : wp (ret (.ret [])) (PFin Q) H := wp_ret h
theorem wp_rF2 {v w : HV} (h : Q (.tup [v, w]) H) : wp (ret (.ret [v, w])) (PFin Q) H := wp_ret h
theorem wp_rF3 {v w u : HV} (h : Q (.tup [v, w, u]) H) : wp (ret (.ret [v, w, u])) (PFin Q) H := wp_ret h
theorem wp_rF4 {v w u t : HV} (h : Q (.tup [v, w, u, t]) H) : wp (ret (.ret [v, w, u, t])) (PFin Q) H := wp_ret h
theorem wp_nN (h : wp (K vs) R H) : wp (ret (.norm vs)) (PNorm R K) H := wp_ret h
theorem wp_rN (h : wp (ret (.ret vs)) R H) : wp (ret (.ret vs)) (PNorm R K) H := by
  obtain ⟨n, a, H', h1, h2⟩ := h
  have := h1 n (Nat.le_refl _)
  cases this
  exact wp_ret h2
theorem wp_xN {i : Nat} (h : wp (ret (.exit i vs)) R H) : wp (ret (.exit i vs)) (PNorm R K) H := by
  obtain ⟨n, a, H', h1, h2⟩ := h
  have := h1 n (Nat.le_refl _)
  cases this
  exact wp_ret h2
theorem wp_nB (h : wp (K vs) R H) : wp (ret (.norm vs)) (PBlk id R K) H := wp_ret h
theorem wp_rB (h : wp (ret (.ret vs)) R H) : wp (ret (.ret vs)) (PBlk id R K) H := by
  obtain ⟨n, a, H', h1, h2⟩ := h
  have := h1 n (Nat.le_refl _)
  cases this
  exact wp_ret h2
/-- out of this block. -/
theorem wp_xB {i : Nat} (hi : Nat.beq i id = true) (h : wp (K vs) R H) : wp (ret (.exit i vs)) (PBlk id R K) H := by
  refine wp_ret ?_
  unfold PBlk; simp only [hi]; exact h
/-- out of an outer block. -/
theorem wp_xB' {i : Nat} (hi : Nat.beq i id = false) (h : wp (ret (.exit i vs)) R H) : wp (ret (.exit i vs)) (PBlk id R K) H := by
  obtain ⟨n, a, H', h1, h2⟩ := h
  have := h1 n (Nat.le_refl _)
  cases this
  refine wp_ret ?_
  unfold PBlk; simp only [hi]; exact h2
variable {σ : Type} {st : σ → Int → List HV} {P : Nat → σ → Heap → Prop} {i : Nat}
theorem wp_nR (h : ∃ x', vs = st x' (wr ((i : Int) + 1)) ∧ P (i + 1) x' H) : wp (ret (.norm vs)) (PFor st P i R) H := wp_ret h
theorem wp_rR (h : wp (ret (.ret vs)) R H) : wp (ret (.ret vs)) (PFor st P i R) H := by
  obtain ⟨n, a, H', h1, h2⟩ := h
  have := h1 n (Nat.le_refl _)
  cases this
  exact wp_ret h2
theorem wp_xR {j : Nat} (h : wp (ret (.exit j vs)) R H) : wp (ret (.exit j vs)) (PFor st P i R) H := by
  obtain ⟨n, a, H', h1, h2⟩ := h
  have := h1 n (Nat.le_refl _)
  cases this
  exact wp_ret h2
/-- a loop of one counter, the memory as it is. -/
def PF0 (P : Nat → Prop) (i : Nat) (H : Heap) (R : Leaf → Heap → Prop) : Leaf → Heap → Prop := fun lf H' => match lf with
  | .norm vs => vs = [I (wr ((i : Int) + 1))] ∧ P (i + 1) ∧ H' = H
  | l => R l H'
variable {P : Nat → Prop}
theorem wp_n0 (h : P (i + 1)) : wp (ret (.norm [I (wr ((i : Int) + 1))])) (PF0 P i H R) H := wp_ret ⟨rfl, h, rfl⟩
theorem wp_r0 (h : wp (ret (.ret vs)) R H) : wp (ret (.ret vs)) (PF0 P i H R) H := by
  obtain ⟨n, a, H', h1, h2⟩ := h
  have := h1 n (Nat.le_refl _)
  cases this
  exact wp_ret h2
theorem wp_x0 {j : Nat} (h : wp (ret (.exit j vs)) R H) : wp (ret (.exit j vs)) (PF0 P i H R) H := by
  obtain ⟨n, a, H', h1, h2⟩ := h
  have := h1 n (Nat.le_refl _)
  cases this
  exact wp_ret h2
theorem wp_loop0 (n : Nat) {len : Int} (hn : n ≤ 9223372036854775807) (hlen : len = (n : Int)) {f : List HV → M Leaf} {B : Int → M Leaf} {out : List HV}
    (hf : ∀ i, f [I i] = cond (decide (i < len)) (B i) (ret (.exit id out))) (hid : Nat.beq id id = true) (P : Nat → Prop) (h0 : P 0)
    (hb : ∀ i, i < n → P i → wp (B i) (PF0 P i H (PBlk id R K)) H) (he : P n → wp (K out) R H) : wp (blk id (loopD f [I 0]) K) R H :=
  wp_for0 n hn hlen hf hid P h0 (fun i hi hp => (hb i hi hp).mono fun l H' hl => by cases l <;> exact hl) he
end

section
variable {H : Heap} {R : Leaf → Heap → Prop} {K : List HV → M Leaf} {vs : List HV} {σ : Type} {st : Nat → σ → List HV} {P : Nat → σ → Heap → Prop} {i : Nat}
theorem wp_nX (h : ∃ x', vs = st i x' ∧ P i x' H) : wp (ret (.norm vs)) (PNext st P i R) H := wp_ret h
theorem wp_rX (h : wp (ret (.ret vs)) R H) : wp (ret (.ret vs)) (PNext st P i R) H := by
  obtain ⟨n, a, H', h1, h2⟩ := h
  have := h1 n (Nat.le_refl _)
  cases this
  exact wp_ret h2
theorem wp_xX {j : Nat} (h : wp (ret (.exit j vs)) R H) : wp (ret (.exit j vs)) (PNext st P i R) H := by
  obtain ⟨n, a, H', h1, h2⟩ := h
  have := h1 n (Nat.le_refl _)
  cases this
  exact wp_ret h2
theorem wp_rE (h : wp (ret (.ret vs)) R H) : wp (ret (.ret vs)) (PEnd R) H := by
  obtain ⟨n, a, H', h1, h2⟩ := h
  have := h1 n (Nat.le_refl _)
  cases this
  exact wp_ret h2
theorem wp_xE {j : Nat} (h : wp (ret (.exit j vs)) R H) : wp (ret (.exit j vs)) (PEnd R) H := by
  obtain ⟨n, a, H', h1, h2⟩ := h
  have := h1 n (Nat.le_refl _)
  cases this
  exact wp_ret h2
/-- a join that hands on one bool, told by p. -/
def PB (p : Prop) (H : Heap) : Leaf → Heap → Prop := fun lf H' => ∃ b : Bool, lf = .norm [.bool b] ∧ (b = true ↔ p) ∧ H' = H
theorem wp_bB {p : Prop} {b : Bool} (h : b = true ↔ p) : wp (ret (.norm [.bool b])) (PB p H) H := wp_ret ⟨b, rfl, h, rfl⟩
theorem wp_jnP (p : Prop) {m : M Leaf} (hm : wp m (PB p H) H) (h1 : p → wp (K [.bool true]) R H) (h2 : ¬ p → wp (K [.bool false]) R H) : wp (jn m K) R H := by
  refine wp_jnB p hm fun b hb => ?_
  cases b
  · exact h2 fun hp => by have := hb.2 hp; cases this
  · exact h1 (hb.1 rfl)
end
end Go.Proofs.Ytolchnaegifckaa.HS
