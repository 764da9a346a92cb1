/- Lemmas for the row. Conditions: none. -/
import Derived.Test.YtbphjihgbenkdaaGreatHQM
import Derived.Test.YtbphjihgbenkdaaGreatHQZd
namespace Go.Proofs.YtbphjihgbenkdaaGreat.HQ
set_option linter.unusedVariables false
set_option linter.unusedSectionVars false
set_option linter.unusedSimpArgs false
open Go
structure Keeps (H H' : Heap) : Prop where
 n : H.n ≤ H'.n
 get : ∀ b, b < H.n → H'.get b = H.get b
theorem Keeps.refl (H : Heap) : Keeps H H := ⟨Nat.le_refl _, fun _ _ => rfl⟩
theorem Keeps.trans {H1 H2 H3 : Heap} (a : Keeps H1 H2) (b : Keeps H2 H3) : Keeps H1 H3 := ⟨Nat.le_trans a.n b.n, fun x hx => (b.get x (Nat.lt_of_lt_of_le hx a.n)).trans (a.get x hx)⟩
theorem Keeps.set {H0 H : Heap} (h : Keeps H0 H) {b : Nat} (hb : H0.n ≤ b) (o : HObj) : Keeps H0 (H.set b o) := ⟨h.n, fun x hx => by simp only [Heap.set]; rw [if_neg (by omega)]; exact h.get x hx⟩
theorem SlR.keeps {H H' : Heap} {s : Sl} {sz : Nat} {ls : List (List HV)} (h : SlR H s sz ls) (k : Keeps H H') : SlR H' s sz ls :=
 ⟨h.len, h.lt, h.cap, h.opn, h.szs, by
  rcases h.mem with h1 | ⟨b, o, cs, ro, h1, h2, h3, h4⟩
  ·exact .inl h1
  ·exact .inr ⟨b, o, cs, ro, h1, Nat.lt_of_lt_of_le h2 k.n, by rw [k.get b h2]; exact h3, h4⟩⟩
section
variable {α : Type} {Q : α → Heap → Prop} {H : Heap}
theorem wp_nw {cs : List HV} {f : Nat → M α} (h : wp (f H.n) Q (H.push (.cells cs false))) : wp (nw cs f) Q H := h
theorem wp_stC {b o : Nat} {v : HV} {m : M α} {cs : List HV} (hb : H.get b = .cells cs false) (ho : o < cs.length) (hv : v.sc = true) (h : wp m Q (H.set b (.cells (cs.set o v) false))) : wp (stC b o v m) Q H := by
 refine wp_of (m' := m) (fun n => ?_) h
 unfold stC
 simp only [hb]
 rw [show decide (o < cs.length) = true from by simpa using ho]
 cases v <;> first | rfl | cases hv
end
section
variable {β : Type} {f : β → List HV} {sz : Nat} {H : Heap} {s : Sl} {l : List β}
end
section
variable {α : Type} {Q : α → Heap → Prop} {H : Heap} {β : Type} {f : β → List HV} {sz : Nat} {s : Sl} {l : List β}
theorem wp_condD {p : Prop} [Decidable p] {x y : M α} (h1 : p → wp x Q H) (h2 : ¬ p → wp y Q H) : wp (cond (decide p) x y) Q H :=
 wp_cond (fun h => h1 (of_decide_eq_true h)) (fun h => h2 (of_decide_eq_false h))
theorem wp_condE {a b : Int} {x y : M α} (h1 : a = b → wp x Q H) (h2 : a ≠ b → wp y Q H) : wp (cond (a == b) x y) Q H :=
 wp_cond (fun h => h1 (by simpa using h)) (fun h => h2 (by simpa using h))
theorem wp_condN {b : Bool} {x y : M α} (h1 : b = false → wp x Q H) (h2 : b = true → wp y Q H) : wp (cond (!b) x y) Q H :=
 wp_cond (fun h => h1 (by simpa using h)) (fun h => h2 (by simpa using h))
theorem wp_gdD {p : Prop} [Decidable p] {m : M α} (hp : p) (h : wp m Q H) : wp (gd (decide p) m) Q H := wp_gd (decide_eq_true hp) h
end
section
variable {Q : Leaf → Heap → Prop} {H : Heap}
theorem wp_jnB {m : M Leaf} {K : List HV → M Leaf} (p : Prop) (hm : wp m (fun lf H' => ∃ b : Bool, lf = .norm [.bool b] ∧ (b = true ↔ p) ∧ H' = H) H) (h : ∀ b : Bool, (b = true ↔ p) → wp (K [.bool b]) Q H) : wp (jn m K) Q H := by
 refine wp_jn (hm.mono ?_)
 rintro _ H' ⟨b, rfl, hb, rfl⟩
 exact h b hb
def PFor {σ : Type} (st : σ → Int → List HV) (P : Nat → σ → Heap → Prop) (i : Nat) (Q : Leaf → Heap → Prop) : Leaf → Heap → Prop := fun l H' => match l with
 | .norm vs => ∃ x', vs = st x' (wr ((i : Int) + 1)) ∧ P (i + 1) x' H'
 | l => Q l H'
theorem wp_for {σ : Type} (n : Nat) {len : Int} (hn : n ≤ 9223372036854775807) (hlen : len = (n : Int)) (st : σ → Int → List HV) {f : List HV → M Leaf} {id : Nat} {K : List HV → M Leaf} {B : σ → Int → M Leaf} {out : σ → List HV}
  (hf : ∀ x i, f (st x i) = cond (decide (i < len)) (B x i) (ret (.exit id (out x)))) (hid : Nat.beq id id = true) (P : Nat → σ → Heap → Prop) (x0 : σ) {vs : List HV} (hv : vs = st x0 0) (h0 : P 0 x0 H)
  (hb : ∀ i x H, i < n → P i x H → wp (B x i) (PFor st P i (PBlk id Q K)) H) (he : ∀ x H, P n x H → wp (K (out x)) Q H) : wp (blk id (loopD f vs) K) Q H := by
 refine wp_blk (wp_range (σ := σ) n (fun i x => st x i) P x0 hv h0 ?_ ?_)
 ·intro i x H hi hp
  rw [hf, hlen]
  refine wp_cond (fun _ => (hb i x H hi hp).mono ?_) (fun hc => ?_)
  ·intro l H' hl
   cases l with
   | norm vs =>
    obtain ⟨x', h1, h2⟩ := hl
    refine ⟨x', ?_, h2⟩
    rw [h1, wr_small (by omega) (by omega)]; rfl
   | exit j vs => exact hl
   | ret vs => exact hl
  ·have := of_decide_eq_false hc
   omega
 ·intro x H hp
  rw [hf, hlen]
  refine wp_cond (fun hc => ?_) (fun _ => wp_ret ?_)
  ·have := of_decide_eq_true hc
   omega
  ·show PBlk id Q K (.exit id (out x)) H
   unfold PBlk
   simp only [hid]
   exact he x H hp
theorem wp_for0 (n : Nat) {len : Int} (hn : n ≤ 9223372036854775807) (hlen : len = (n : Int)) {f : List HV → M Leaf} {id : Nat} {K : List HV → M Leaf} {B : Int → M Leaf} {out : List HV}
  (hf : ∀ i, f [I i] = cond (decide (i < len)) (B i) (ret (.exit id out))) (hid : Nat.beq id id = true) (P : Nat → Prop) (h0 : P 0)
  (hb : ∀ i, i < n → P i → wp (B i) (fun lf H' => match lf with | .norm vs => vs = [I (wr ((i : Int) + 1))] ∧ P (i + 1) ∧ H' = H | l => PBlk id Q K l H') H) (he : P n → wp (K out) Q H) : wp (blk id (loopD f [I 0]) K) Q H := by
 refine wp_for (σ := Unit) n hn hlen (fun _ i => [I i]) (B := fun _ i => B i) (out := fun _ => out) (fun _ i => hf i) hid (fun i _ H' => P i ∧ H' = H) () rfl ⟨h0, rfl⟩ ?_ ?_
 ·rintro i _ H' hi ⟨hp, rfl⟩
  refine (hb i hi hp).mono ?_
  intro l H2 hl
  cases l with
  | norm vs => exact ⟨(), hl.1, hl.2⟩
  | exit j vs => exact hl
  | ret vs => exact hl
 ·rintro _ H' ⟨hp, rfl⟩
  exact he hp
end
theorem take_snoc {β : Type} {l : List β} {p : β → Prop} {i : Nat} (hi : i < l.length) (h : ∀ x ∈ l.take i, p x) (h1 : p l[i]) : ∀ x ∈ l.take (i + 1), p x := by
 rw [List.take_succ_eq_append_getElem hi]
 intro x hx
 rcases List.mem_append.1 hx with hx | hx
 ·exact h x hx
 ·simp at hx; subst hx; exact h1
section
variable {α : Type} {Q : α → Heap → Prop} {H : Heap} {β : Type} {f : β → List HV} {sz : Nat} {s : Sl} {l : List β}
end
theorem wp_condT {α : Type} {Q : α → Heap → Prop} {H : Heap} {x y : M α} (h : wp x Q H) : wp (cond true x y) Q H := h
theorem wp_condF {α : Type} {Q : α → Heap → Prop} {H : Heap} {x y : M α} (h : wp y Q H) : wp (cond false x y) Q H := h
def PFin (Q : HV → Heap → Prop) : Leaf → Heap → Prop := fun l H' => match l with
 | .ret [v] => Q v H'
 | .ret vs => Q (.tup vs) H'
 | _ => False
section
variable {H : Heap} {Q : HV → Heap → Prop} {R : Leaf → Heap → Prop} {K : List HV → M Leaf} {id : Nat} {vs : List HV}
theorem wp_finF {m : M Leaf} (h : wp m (PFin Q) H) : wp (fin m) Q H := wp_fin h
theorem wp_rF {v : HV} (h : Q v H) : wp (ret (.ret [v])) (PFin Q) H := wp_ret h
theorem wp_rB (h : wp (ret (.ret vs)) R H) : wp (ret (.ret vs)) (PBlk id R K) H := by
 obtain ⟨n, a, H', h1, h2⟩ := h
 have := h1 n (Nat.le_refl _)
 cases this
 exact wp_ret h2
variable {σ : Type} {st : σ → Int → List HV} {P : Nat → σ → Heap → Prop} {i : Nat}
def PF0 (P : Nat → Prop) (i : Nat) (H : Heap) (R : Leaf → Heap → Prop) : Leaf → Heap → Prop := fun lf H' => match lf with
 | .norm vs => vs = [I (wr ((i : Int) + 1))] ∧ P (i + 1) ∧ H' = H
 | l => R l H'
variable {P : Nat → Prop}
theorem wp_n0 (h : P (i + 1)) : wp (ret (.norm [I (wr ((i : Int) + 1))])) (PF0 P i H R) H := wp_ret ⟨rfl, h, rfl⟩
theorem wp_r0 (h : wp (ret (.ret vs)) R H) : wp (ret (.ret vs)) (PF0 P i H R) H := by
 obtain ⟨n, a, H', h1, h2⟩ := h
 have := h1 n (Nat.le_refl _)
 cases this
 exact wp_ret h2
theorem wp_loop0 (n : Nat) {len : Int} (hn : n ≤ 9223372036854775807) (hlen : len = (n : Int)) {f : List HV → M Leaf} {B : Int → M Leaf} {out : List HV}
  (hf : ∀ i, f [I i] = cond (decide (i < len)) (B i) (ret (.exit id out))) (hid : Nat.beq id id = true) (P : Nat → Prop) (h0 : P 0)
  (hb : ∀ i, i < n → P i → wp (B i) (PF0 P i H (PBlk id R K)) H) (he : P n → wp (K out) R H) : wp (blk id (loopD f [I 0]) K) R H :=
 wp_for0 n hn hlen hf hid P h0 (fun i hi hp => (hb i hi hp).mono fun l H' hl => by cases l <;> exact hl) he
end
section
variable {H : Heap} {R : Leaf → Heap → Prop} {K : List HV → M Leaf} {vs : List HV} {σ : Type} {st : Nat → σ → List HV} {P : Nat → σ → Heap → Prop} {i : Nat}
def PB (p : Prop) (H : Heap) : Leaf → Heap → Prop := fun lf H' => ∃ b : Bool, lf = .norm [.bool b] ∧ (b = true ↔ p) ∧ H' = H
theorem wp_bB {p : Prop} {b : Bool} (h : b = true ↔ p) : wp (ret (.norm [.bool b])) (PB p H) H := wp_ret ⟨b, rfl, h, rfl⟩
theorem wp_jnP (p : Prop) {m : M Leaf} (hm : wp m (PB p H) H) (h1 : p → wp (K [.bool true]) R H) (h2 : ¬ p → wp (K [.bool false]) R H) : wp (jn m K) R H := by
 refine wp_jnB p hm fun b hb => ?_
 cases b
 ·exact h2 fun hp => by have := hb.2 hp; cases this
 ·exact h1 (hb.1 rfl)
end
section
variable {α : Type} {H : Heap} {Q : α → Heap → Prop}
theorem wp_nwL {k : Nat} {vs : List (Nat × HV)} {f : Nat → M α} (h : wp (f H.n) Q (H.push (.spc (.loop k vs .ready none)))) : wp (nwL k vs f) Q H := h
theorem wp_busyL {l k : Nat} {vs : List (Nat × HV)} {pd : Option Code} {m : M α} (hg : H.get l = .spc (.loop k vs .ready pd)) (h : wp m Q (H.set l (.spc (.loop k vs .busy pd)))) : wp (busyL l m) Q H :=
 wp_of (fun n => by unfold busyL; rw [hg]) h
theorem wp_doneL {l k : Nat} {vs : List (Nat × HV)} {st st' : LoopState} {pd pd' : Option Code} {m : M α} (hg : H.get l = .spc (.loop k vs st pd)) (h : wp m Q (H.set l (.spc (.loop k vs st' pd')))) : wp (doneL l st' pd' m) Q H :=
 wp_of (fun n => by unfold doneL; rw [hg]) h
theorem wp_endL0 {l k : Nat} {vs : List (Nat × HV)} {st : LoopState} {K0 Kr : M α} {Kx : Nat → M α} (hg : H.get l = .spc (.loop k vs st none)) (hb : st ≠ .busy) (h : wp K0 Q (H.set l (.spc (.loop k vs .exhausted none)))) : wp (endL l K0 Kx Kr) Q H :=
 wp_of (fun n => by unfold endL; rw [hg]; cases st <;> first | rfl | exact absurd rfl hb) h
theorem wp_gdS {sl : List Nat} {vs : List (Nat × HV)} {f : List HV → M α} (hs : vs.map Prod.fst = sl) (h : wp (f (vs.map Prod.snd)) Q H) : wp (gdS sl vs f) Q H := by
 unfold gdS; rw [decide_eq_true hs]; exact h
end
def PRnd (l : Nat) (Q : HV → Heap → Prop) : Leaf → Heap → Prop := fun lf H => match lf with
 | .norm _ => ∃ k vs st pd, H.get l = .spc (.loop k vs st pd) ∧ Q (.bool true) (H.set l (.spc (.loop k vs .ready none)))
 | .exit id _ => ∃ k vs st pd, H.get l = .spc (.loop k vs st pd) ∧ Q (.bool false) (H.set l (.spc (.loop k vs .done (some (.exit id)))))
 | .ret _ => ∃ k vs st pd, H.get l = .spc (.loop k vs st pd) ∧ Q (.bool false) (H.set l (.spc (.loop k vs .done (some .ret))))
section
variable {H : Heap} {Q : HV → Heap → Prop} {l : Nat}
theorem wp_roundL {m : M Leaf} (h : wp m (PRnd l Q) H) : wp (roundL l m) Q H := by
 obtain ⟨n0, a, H', h1, h2⟩ := h
 have key : ∀ {st' : LoopState} {pd' : Option Code} {b : Bool}, (∃ k vs st pd, H'.get l = .spc (.loop k vs st pd) ∧ Q (.bool b) (H'.set l (.spc (.loop k vs st' pd')))) → wp (doneL l st' pd' (ret (.bool b))) Q H' :=
  fun ⟨k, vs, st, pd, g, q⟩ => wp_doneL g (wp_ret q)
 cases a with
 | norm vs =>
  obtain ⟨n1, b, H2, g1, g2⟩ := key h2
  exact ⟨n0 + n1, b, H2, fun n hn => by unfold roundL; rw [h1 n (by omega)]; exact g1 n (by omega), g2⟩
 | exit id vs =>
  obtain ⟨n1, b, H2, g1, g2⟩ := key h2
  exact ⟨n0 + n1, b, H2, fun n hn => by unfold roundL; rw [h1 n (by omega)]; exact g1 n (by omega), g2⟩
 | ret vs =>
  obtain ⟨n1, b, H2, g1, g2⟩ := key h2
  exact ⟨n0 + n1, b, H2, fun n hn => by unfold roundL; rw [h1 n (by omega)]; exact g1 n (by omega), g2⟩
theorem wp_rnd {cl : List (Nat × Clo)} {rn : List (Nat × Rnd)} {D : DD} {args : List HV} {k : Nat} {vs : List (Nat × HV)} {st : LoopState} {pd : Option Code} {m : Rnd} (hg : H.get l = .spc (.loop k vs st pd)) (hm : lkA rn k = some m)
  (h : wp (m D l vs args) (PRnd l Q) H) : wp (stepD cl rn D (.yld l) args) Q H := by
 refine wp_of (m' := roundL l (m D l vs args)) (H' := H) (fun n => ?_) (wp_roundL h)
 show rndD rn D l args H n = _
 unfold rndD; rw [hg]; simp only [hm]
theorem wp_clo {cl : List (Nat × Clo)} {rn : List (Nat × Rnd)} {D : DD} {args first cap : List HV} {i : Nat} {g : Clo} (hm : lkA cl i = some g) (h : wp (g D (first ++ args ++ cap)) Q H) : wp (stepD cl rn D (.func i first cap) args) Q H := by
 unfold stepD; simp only [hm]; exact h
end
end Go.Proofs.YtbphjihgbenkdaaGreat.HQ
