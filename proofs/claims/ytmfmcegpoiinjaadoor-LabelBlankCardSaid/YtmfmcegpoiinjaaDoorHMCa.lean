/- Runs of the texts: one rule for each form, so that straight code is walked by trying them in turn. Conditions: none (lemmas). -/
import Derived.Test.YtmfmcegpoiinjaaDoorHMMc
namespace Go.Proofs.YtmfmcegpoiinjaaDoor.HM
open Go

section
variable {α : Type} {Q : α → Heap → Prop} {H : Heap} {β : Type} {f : β → List HV} {sz : Nat} {s : Sl} {l : List β}
/-- one field of an element is read. -/
theorem wp_atF (h : Rows f sz H s l) {i : Nat} (hi : i < l.length) {k : Nat} {v : HV} (hk : (f l[i])[k]? = some v) {g : Nat → Nat → HV → M α} (hg : ∀ b o, wp (g b o v) Q H) : wp (ix s (i : Int) sz fun b o => ldC b (o + k) fun c => g b o c) Q H := by
  have hh : SlR H s sz (l.map f) := h
  obtain ⟨b, o, cs, ro, h1, h2, h3, h4⟩ := hh.at (i := i) (l := f l[i]) (by simp [hi])
  have hsz : (f l[i]).length = sz := hh.szs _ (List.mem_map.2 ⟨_, List.getElem_mem hi, rfl⟩)
  have hksz : k < sz := by rw [← hsz]; exact (List.getElem?_eq_some_iff.1 hk).1
  unfold ix
  refine wp_gd (by simp) (wp_gd (by rw [h.len]; simp; omega) ?_)
  rw [h1, mP_eq']
  refine wp_of (m' := g b (o + (i : Int).toNat * sz) v) (fun n => ?_) (hg _ _)
  unfold ldC
  simp only [h2]
  unfold gx
  have : cs[o + (i : Int).toNat * sz + k]? = some v := by
    rw [← hk, ← h4, List.getElem?_take, if_pos hksz, List.getElem?_drop]; simp
  rw [this]
end
theorem wp_condT {α : Type} {Q : α → Heap → Prop} {H : Heap} {x y : M α} (h : wp x Q H) : wp (cond true x y) Q H := h
theorem wp_condF {α : Type} {Q : α → Heap → Prop} {H : Heap} {x y : M α} (h : wp y Q H) : wp (cond false x y) Q H := h
theorem wp_condNT {α : Type} {Q : α → Heap → Prop} {H : Heap} {x y : M α} (h : wp y Q H) : wp (cond (!true) x y) Q H := h
theorem wp_condNF {α : Type} {Q : α → Heap → Prop} {H : Heap} {x y : M α} (h : wp x Q H) : wp (cond (!false) x y) Q H := h
def PFin (Q : HV → Heap → Prop) : Leaf → Heap → Prop := fun l H' => match l with
  | .ret [v] => Q v H'
  | .ret vs => Q (.tup vs) H'
  | _ => False
section
variable {H : Heap} {Q : HV → Heap → Prop} {R : Leaf → Heap → Prop} {K : List HV → M Leaf} {id : Nat} {vs : List HV}
theorem wp_finF {m : M Leaf} (h : wp m (PFin Q) H) : wp (fin m) Q H := wp_fin h
theorem wp_rF {v : HV} (h : Q v H) : wp (ret (.ret [v])) (PFin Q) H := wp_ret h
theorem wp_rF0 (h : Q (.tup []) H) : wp (ret (.ret [])) (PFin Q) H := wp_ret h
theorem wp_rF2 {v w : HV} (h : Q (.tup [v, w]) H) : wp (ret (.ret [v, w])) (PFin Q) H := wp_ret h
theorem wp_rF3 {v w u : HV} (h : Q (.tup [v, w, u]) H) : wp (ret (.ret [v, w, u])) (PFin Q) H := wp_ret h
theorem wp_rF4 {v w u t : HV} (h : Q (.tup [v, w, u, t]) H) : wp (ret (.ret [v, w, u, t])) (PFin Q) H := wp_ret h
theorem wp_nN (h : wp (K vs) R H) : wp (ret (.norm vs)) (PNorm R K) H := wp_ret h
theorem wp_rN (h : wp (ret (.ret vs)) R H) : wp (ret (.ret vs)) (PNorm R K) H := by
  obtain ⟨n, a, H', h1, h2⟩ := h
  have := h1 n (Nat.le_refl _)
  cases this
  exact wp_ret h2
theorem wp_xN {i : Nat} (h : wp (ret (.exit i vs)) R H) : wp (ret (.exit i vs)) (PNorm R K) H := by
  obtain ⟨n, a, H', h1, h2⟩ := h
  have := h1 n (Nat.le_refl _)
  cases this
  exact wp_ret h2
theorem wp_nB (h : wp (K vs) R H) : wp (ret (.norm vs)) (PBlk id R K) H := wp_ret h
theorem wp_rB (h : wp (ret (.ret vs)) R H) : wp (ret (.ret vs)) (PBlk id R K) H := by
  obtain ⟨n, a, H', h1, h2⟩ := h
  have := h1 n (Nat.le_refl _)
  cases this
  exact wp_ret h2
/-- out of this block. -/
theorem wp_xB {i : Nat} (hi : Nat.beq i id = true) (h : wp (K vs) R H) : wp (ret (.exit i vs)) (PBlk id R K) H := by
  refine wp_ret ?_
  unfold PBlk; simp only [hi]; exact h
variable {σ : Type} {st : σ → Int → List HV} {P : Nat → σ → Heap → Prop} {i : Nat}
theorem wp_nR (h : ∃ x', vs = st x' (wr ((i : Int) + 1)) ∧ P (i + 1) x' H) : wp (ret (.norm vs)) (PFor st P i R) H := wp_ret h
theorem wp_rR (h : wp (ret (.ret vs)) R H) : wp (ret (.ret vs)) (PFor st P i R) H := by
  obtain ⟨n, a, H', h1, h2⟩ := h
  have := h1 n (Nat.le_refl _)
  cases this
  exact wp_ret h2
theorem wp_xR {j : Nat} (h : wp (ret (.exit j vs)) R H) : wp (ret (.exit j vs)) (PFor st P i R) H := by
  obtain ⟨n, a, H', h1, h2⟩ := h
  have := h1 n (Nat.le_refl _)
  cases this
  exact wp_ret h2
/-- a loop of one counter, the memory as it is. -/
def PF0 (P : Nat → Prop) (i : Nat) (H : Heap) (R : Leaf → Heap → Prop) : Leaf → Heap → Prop := fun lf H' => match lf with
  | .norm vs => vs = [I (wr ((i : Int) + 1))] ∧ P (i + 1) ∧ H' = H
  | l => R l H'
variable {P : Nat → Prop}
theorem wp_n0 (h : P (i + 1)) : wp (ret (.norm [I (wr ((i : Int) + 1))])) (PF0 P i H R) H := wp_ret ⟨rfl, h, rfl⟩
theorem wp_loop0 (n : Nat) {len : Int} (hn : n ≤ 9223372036854775807) (hlen : len = (n : Int)) {f : List HV → M Leaf} {B : Int → M Leaf} {out : List HV}
    (hf : ∀ i, f [I i] = cond (decide (i < len)) (B i) (ret (.exit id out))) (hid : Nat.beq id id = true) (P : Nat → Prop) (h0 : P 0)
    (hb : ∀ i, i < n → P i → wp (B i) (PF0 P i H (PBlk id R K)) H) (he : P n → wp (K out) R H) : wp (blk id (loopD f [I 0]) K) R H :=
  wp_for0 n hn hlen hf hid P h0 (fun i hi hp => (hb i hi hp).mono fun l H' hl => by cases l <;> exact hl) he
end

section
variable {H : Heap} {R : Leaf → Heap → Prop} {K : List HV → M Leaf} {vs : List HV} {σ : Type} {st : Nat → σ → List HV} {P : Nat → σ → Heap → Prop} {i : Nat}
theorem wp_nX (h : ∃ x', vs = st i x' ∧ P i x' H) : wp (ret (.norm vs)) (PNext st P i R) H := wp_ret h
/-- a join that hands on one bool, told by p. -/
def PB (p : Prop) (H : Heap) : Leaf → Heap → Prop := fun lf H' => ∃ b : Bool, lf = .norm [.bool b] ∧ (b = true ↔ p) ∧ H' = H
theorem wp_bB {p : Prop} {b : Bool} (h : b = true ↔ p) : wp (ret (.norm [.bool b])) (PB p H) H := wp_ret ⟨b, rfl, h, rfl⟩
theorem wp_jnP (p : Prop) {m : M Leaf} (hm : wp m (PB p H) H) (h1 : p → wp (K [.bool true]) R H) (h2 : ¬ p → wp (K [.bool false]) R H) : wp (jn m K) R H := by
  refine wp_jnB p hm fun b hb => ?_
  cases b
  · exact h2 fun hp => by have := hb.2 hp; cases this
  · exact h1 (hb.1 rfl)
end
end Go.Proofs.YtmfmcegpoiinjaaDoor.HM
namespace Go.Proofs.YtmfmcegpoiinjaaDoor.HM
open Go

structure Ins where
  op : Int
  a : Int
  b : Int
  c : Int
deriving DecidableEq
abbrev Ins.cs (x : Ins) : List HV := [I x.op, I x.a, I x.b, I x.c]
abbrev RProg := Rows Ins.cs 4

/-- the Begin of the block that is open ahead of a place; -1: none is. -/
def opn (p : List Ins) : Nat → Int
  | 0 => -1
  | i + 1 => match p[i]? with
    | some x => if x.op = 4 then (i : Int) else if x.op = 5 then -1 else opn p i
    | none => opn p i
/-- closed blocks, none in another one. -/
def Shaped (p : List Ins) : Prop := (∀ i (hi : i < p.length), ((p[i]).op = 4 → opn p i < 0) ∧ ((p[i]).op = 5 → 0 ≤ opn p i)) ∧ opn p p.length < 0

def inside (x : Ins) : List Int → Prop
  | [a0, a1, b0, b1, c0, c1] => a0 ≤ x.a ∧ x.a ≤ a1 ∧ b0 ≤ x.b ∧ x.b ≤ b1 ∧ c0 ≤ x.c ∧ x.c ≤ c1
  | _ => False
end Go.Proofs.YtmfmcegpoiinjaaDoor.HM
