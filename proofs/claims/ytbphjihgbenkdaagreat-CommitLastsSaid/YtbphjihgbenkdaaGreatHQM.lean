/- Lemmas for the row. Conditions: none. -/
import Derived.Test.YtbphjihgbenkdaaGreatHQD
import Derived.IntWalk
namespace Go.Proofs.YtbphjihgbenkdaaGreat.HQ
set_option linter.unusedVariables false
set_option linter.unusedSectionVars false
set_option linter.unusedSimpArgs false
open Go
def wp {α : Type} (m : M α) (Q : α → Heap → Prop) (H : Heap) : Prop := ∃ n0 a H', (∀ n, n0 ≤ n → m H n = some (a, H')) ∧ Q a H'
section
variable {α β : Type} {Q : α → Heap → Prop} {H : Heap}
theorem wp.mono {m : M α} {Q' : α → Heap → Prop} (h : wp m Q H) (hq : ∀ a H', Q a H' → Q' a H') : wp m Q' H := by
 obtain ⟨n, a, H', h1, h2⟩ := h; exact ⟨n, a, H', h1, hq _ _ h2⟩
theorem wp_of {m m' : M α} {H' : Heap} (h : ∀ n, m H n = m' H' n) (hw : wp m' Q H') : wp m Q H := by
 obtain ⟨n, a, H2, h1, h2⟩ := hw; exact ⟨n, a, H2, fun k hk => (h k).trans (h1 k hk), h2⟩
theorem wp_ret {a : α} (h : Q a H) : wp (ret a) Q H := ⟨0, a, H, fun _ _ => rfl, h⟩
theorem wp_bnd {m : M β} {k : β → M α} (h : wp m (fun b H' => wp (k b) Q H') H) : wp (bnd m k) Q H := by
 obtain ⟨n, b, H', h1, n2, a, H2, h2, h3⟩ := h
 refine ⟨max n n2, a, H2, fun k hk => ?_, h3⟩
 unfold bnd
 rw [h1 k (by omega)]
 exact h2 k (by omega)
theorem wp_gd {b : Bool} {m : M α} (hb : b = true) (h : wp m Q H) : wp (gd b m) Q H := by subst hb; exact h
theorem wp_cond {b : Bool} {x y : M α} (h1 : b = true → wp x Q H) (h2 : b = false → wp y Q H) : wp (cond b x y) Q H := by
 cases b
 ·exact h2 rfl
 ·exact h1 rfl
/-! destructuring: by reduction -/
theorem asI_eq (k : IntKind) (n : Int) (f : Int → M α) : asI k (.int k n) f = f n := by unfold asI; simp [gd]
theorem uc_eq (v : HV) (r : List HV) (f : HV → List HV → M α) : uc (v :: r) f = f v r := rfl
theorem uI_eq (k : IntKind) (n : Int) (r : List HV) (f : Int → List HV → M α) : uI k (.int k n :: r) f = f n r := by unfold uI; rw [uc_eq, asI_eq]
theorem mP_eq' (b o : Nat) (f : Nat → Nat → M α) : mP (some (b, o)) f = f b o := rfl
end
section
variable {α : Type} {Q : α → Heap → Prop} {H : Heap} {r : List HV}
theorem wp_asI {k : IntKind} {n : Int} {f : Int → M α} (h : wp (f n) Q H) : wp (asI k (.int k n) f) Q H := by rw [asI_eq]; exact h
theorem wp_asB {b : Bool} {f : Bool → M α} (h : wp (f b) Q H) : wp (asB (.bool b) f) Q H := h
theorem wp_asS {b : ByteArray} {f : ByteArray → M α} (h : wp (f b) Q H) : wp (asS (.str b) f) Q H := h
theorem wp_asP {b : Option (Nat × Nat)} {f : Option (Nat × Nat) → M α} (h : wp (f b) Q H) : wp (asP (.ptr b) f) Q H := h
theorem wp_asSl {b : Sl} {f : Sl → M α} (h : wp (f b) Q H) : wp (asSl (.sl b) f) Q H := h
theorem wp_asA {b : List HV} {f : List HV → M α} (h : wp (f b) Q H) : wp (asA (.agg b) f) Q H := h
theorem wp_asT {b : List HV} {f : List HV → M α} (h : wp (f b) Q H) : wp (asT (.tup b) f) Q H := h
theorem wp_uc {v : HV} {f : HV → List HV → M α} (h : wp (f v r) Q H) : wp (uc (v :: r) f) Q H := h
theorem wp_nl {m : M α} (h : wp m Q H) : wp (nl [] m) Q H := h
theorem wp_uI {k : IntKind} {n : Int} {f : Int → List HV → M α} (h : wp (f n r) Q H) : wp (uI k (.int k n :: r) f) Q H := by rw [uI_eq]; exact h
theorem wp_uB {b : Bool} {f : Bool → List HV → M α} (h : wp (f b r) Q H) : wp (uB (.bool b :: r) f) Q H := h
theorem wp_uS {b : ByteArray} {f : ByteArray → List HV → M α} (h : wp (f b r) Q H) : wp (uS (.str b :: r) f) Q H := h
theorem wp_uP {b : Option (Nat × Nat)} {f : Option (Nat × Nat) → List HV → M α} (h : wp (f b r) Q H) : wp (uP (.ptr b :: r) f) Q H := h
theorem wp_uL {b : Sl} {f : Sl → List HV → M α} (h : wp (f b r) Q H) : wp (uL (.sl b :: r) f) Q H := h
theorem wp_uA {b : List HV} {f : List HV → List HV → M α} (h : wp (f b r) Q H) : wp (uA (.agg b :: r) f) Q H := h
end
/-! constructs -/
section
variable {Q : Leaf → Heap → Prop} {H : Heap}
def PNorm (Q : Leaf → Heap → Prop) (k : List HV → M Leaf) : Leaf → Heap → Prop := fun l H' => match l with
 | .norm vs => wp (k vs) Q H'
 | l => Q l H'
theorem wp_jn {m : M Leaf} {k : List HV → M Leaf} (h : wp m (PNorm Q k) H) : wp (jn m k) Q H := by
 obtain ⟨n, l, H', h1, h2⟩ := h
 cases l with
 | norm vs =>
  obtain ⟨n2, a, H2, h3, h4⟩ := h2
  refine ⟨max n n2, a, H2, fun k hk => ?_, h4⟩
  unfold jn; rw [h1 k (by omega)]; exact h3 k (by omega)
 | exit i vs => exact ⟨n, _, H', fun k hk => by unfold jn; rw [h1 k hk], h2⟩
 | ret vs => exact ⟨n, _, H', fun k hk => by unfold jn; rw [h1 k hk], h2⟩
def PBlk (id : Nat) (Q : Leaf → Heap → Prop) (k : List HV → M Leaf) : Leaf → Heap → Prop := fun l H' => match l with
 | .norm vs => wp (k vs) Q H'
 | .exit i vs => match Nat.beq i id with
  | true => wp (k vs) Q H'
  | false => Q (.exit i vs) H'
 | l => Q l H'
theorem wp_blk {id : Nat} {m : M Leaf} {k : List HV → M Leaf} (h : wp m (PBlk id Q k) H) : wp (blk id m k) Q H := by
 obtain ⟨n, l, H', h1, h2⟩ := h
 cases l with
 | norm vs =>
  obtain ⟨n2, a, H2, h3, h4⟩ := h2
  refine ⟨max n n2, a, H2, fun k hk => ?_, h4⟩
  unfold blk; rw [h1 k (by omega)]; exact h3 k (by omega)
 | exit i vs =>
  unfold PBlk at h2
  simp only at h2
  cases hb : Nat.beq i id with
  | true =>
   rw [hb] at h2
   obtain ⟨n2, a, H2, h3, h4⟩ := h2
   refine ⟨max n n2, a, H2, fun k hk => ?_, h4⟩
   unfold blk; rw [h1 k (by omega)]; simp only [hb]; exact h3 k (by omega)
  | false =>
   rw [hb] at h2
   exact ⟨n, _, H', fun k hk => by unfold blk; rw [h1 k hk]; simp only [hb], h2⟩
 | ret vs => exact ⟨n, _, H', fun k hk => by unfold blk; rw [h1 k hk], h2⟩
theorem wp_fin {m : M Leaf} {Q : HV → Heap → Prop} (h : wp m (fun l H' => match l with | .ret [v] => Q v H' | .ret vs => Q (.tup vs) H' | _ => False) H) : wp (fin m) Q H := by
 obtain ⟨n, l, H', h1, h2⟩ := h
 cases l with
 | norm vs => exact h2.elim
 | exit i vs => exact h2.elim
 | ret vs =>
  match vs, h1, h2 with
  | [], h1, h2 => exact ⟨n, _, H', fun k hk => by unfold fin; rw [h1 k hk], h2⟩
  | [v], h1, h2 => exact ⟨n, _, H', fun k hk => by unfold fin; rw [h1 k hk], h2⟩
  | v :: u :: r, h1, h2 => exact ⟨n, _, H', fun k hk => by unfold fin; rw [h1 k hk], h2⟩
def PLoop (Inv : Nat → List HV → Heap → Prop) (k : Nat) (Q : Leaf → Heap → Prop) : Leaf → Heap → Prop := fun l H' => match l with
 | .norm vs => ∃ k', k' < k ∧ Inv k' vs H'
 | l => Q l H'
theorem wp_loop {f : List HV → M Leaf} (Inv : Nat → List HV → Heap → Prop) (k : Nat) {vs : List HV} (h0 : Inv k vs H) (hs : ∀ k vs H, Inv k vs H → wp (f vs) (PLoop Inv k Q) H) : wp (loopD f vs) Q H := by
 have key : ∀ k vs H, Inv k vs H → ∃ n0 a H', (∀ n m, n0 ≤ n → n0 ≤ m → loopGo f m vs H n = some (a, H')) ∧ Q a H' := by
  intro k
  induction k using Nat.strongRecOn with
  | ind k ih =>
   intro vs H hi
   obtain ⟨n, l, H', h1, h2⟩ := hs k vs H hi
   have un : ∀ n' m, loopGo f (m + 1) vs H n' = match f vs H n' with
     | some (.norm vs', H') => loopGo f m vs' H' n'
     | r => r := fun _ _ => rfl
   cases l with
   | norm vs' =>
    obtain ⟨k', hk, hi'⟩ := h2
    obtain ⟨n2, a, H2, h3, h4⟩ := ih k' hk vs' H' hi'
    refine ⟨max n n2 + 1, a, H2, fun n' m hn hm => ?_, h4⟩
    obtain ⟨m, rfl⟩ : ∃ m', m = m' + 1 := ⟨m - 1, by omega⟩
    rw [un, h1 n' (by omega)]
    exact h3 n' m (by omega) (by omega)
   | exit i vs' =>
    refine ⟨n + 1, _, H', fun n' m hn hm => ?_, h2⟩
    obtain ⟨m, rfl⟩ : ∃ m', m = m' + 1 := ⟨m - 1, by omega⟩
    rw [un, h1 n' (by omega)]
   | ret vs' =>
    refine ⟨n + 1, _, H', fun n' m hn hm => ?_, h2⟩
    obtain ⟨m, rfl⟩ : ∃ m', m = m' + 1 := ⟨m - 1, by omega⟩
    rw [un, h1 n' (by omega)]
 obtain ⟨n, a, H', h1, h2⟩ := key k vs H h0
 exact ⟨n, a, H', fun n' hn => h1 n' n' hn hn, h2⟩
end
/-! memory -/
structure SlR (H : Heap) (s : Sl) (sz : Nat) (ls : List (List HV)) : Prop where
 len : s.len = ls.length
 lt : ls.length ≤ 9223372036854775807
 cap : s.len ≤ s.cap
 opn : s.opn = none ∨ s.opn = some sz
 szs : ∀ l ∈ ls, l.length = sz
 mem : (s.p = none ∧ ls = []) ∨ ∃ b o cs ro, s.p = some (b, o) ∧ b < H.n ∧ H.get b = .cells cs ro ∧ o + ls.length * sz ≤ cs.length ∧ (cs.drop o).take (ls.length * sz) = ls.flatten
theorem flatten_length {α : Type} {sz : Nat} : ∀ {ls : List (List α)}, (∀ l ∈ ls, l.length = sz) → ls.flatten.length = ls.length * sz
 | [], _ => by simp
 | l :: ls, h => by
  rw [List.flatten_cons, List.length_append, flatten_length (fun x hx => h x (List.mem_cons_of_mem _ hx)), h l List.mem_cons_self, List.length_cons, Nat.succ_mul]; omega
theorem flatten_slice {α : Type} {sz : Nat} : ∀ {ls : List (List α)}, (∀ l ∈ ls, l.length = sz) → ∀ (i : Nat) (l : List α), ls[i]? = some l → (ls.flatten.drop (i * sz)).take sz = l
 | [], _, i, l, e => by simp at e
 | x :: ls, h, i, l, e => by
  have hx := h x List.mem_cons_self
  cases i with
  | zero =>
   simp only [List.getElem?_cons_zero, Option.some.injEq] at e
   subst e
   rw [List.flatten_cons, Nat.zero_mul, List.drop_zero, ← hx, List.take_left]
  | succ i =>
   rw [List.flatten_cons, Nat.succ_mul, Nat.add_comm, ← List.drop_drop, ← hx, List.drop_left]
   rw [hx]
   exact flatten_slice (fun y hy => h y (List.mem_cons_of_mem _ hy)) i l (by simpa using e)
section
variable {α : Type} {Q : α → Heap → Prop} {H : Heap}
theorem SlR.at {s : Sl} {sz : Nat} {ls : List (List HV)} (h : SlR H s sz ls) {i : Nat} {l : List HV} (hi : ls[i]? = some l) :
  ∃ b o cs ro, s.p = some (b, o) ∧ H.get b = .cells cs ro ∧ o + i * sz + sz ≤ cs.length ∧ (cs.drop (o + i * sz)).take sz = l := by
 have hlt : i < ls.length := (List.getElem?_eq_some_iff.1 hi).1
 rcases h.mem with ⟨_, rfl⟩ | ⟨b, o, cs, ro, h1, _, h2, h3, h4⟩
 ·simp at hi
 ·have hm : i * sz + sz ≤ ls.length * sz := by rw [← Nat.succ_mul]; exact Nat.mul_le_mul_right _ hlt
  refine ⟨b, o, cs, ro, h1, h2, by omega, ?_⟩
  have := flatten_slice h.szs i l hi
  rw [← h4, List.drop_take, List.drop_drop, List.take_take] at this
  rw [← this]; congr 1; omega
theorem wp_ixN {s : Sl} {sz : Nat} {ls : List (List HV)} (h : SlR H s sz ls) {i : Int} (h0 : 0 ≤ i) {l : List HV} (hi : ls[i.toNat]? = some l) {g : Nat → Nat → List HV → M α} (hg : ∀ b o, wp (g b o l) Q H) :
  wp (ix s i sz fun b o => ldN b o sz fun cs => g b o cs) Q H := by
 obtain ⟨b, o, cs, ro, h1, h2, h3, h4⟩ := h.at hi
 have hlt : i.toNat < ls.length := (List.getElem?_eq_some_iff.1 hi).1
 unfold ix
 refine wp_gd (by simpa using h0) (wp_gd (by rw [h.len]; simp; omega) ?_)
 rw [h1, mP_eq']
 refine wp_of (m' := g b (o + i.toNat * sz) l) (fun n => ?_) (hg _ _)
 unfold ldN
 simp only [h2]
 unfold gxN
 rw [show decide (o + i.toNat * sz + sz ≤ cs.length) = true from by simpa using h3, h4]
 rfl
end
def PNext {σ : Type} (st : Nat → σ → List HV) (P : Nat → σ → Heap → Prop) (i : Nat) (Q : Leaf → Heap → Prop) : Leaf → Heap → Prop := fun l H' => match l with
 | .norm vs => ∃ x', vs = st i x' ∧ P i x' H'
 | l => Q l H'
def PEnd (Q : Leaf → Heap → Prop) : Leaf → Heap → Prop := fun l H' => match l with
 | .norm _ => False
 | l => Q l H'
theorem wp_range {σ : Type} {f : List HV → M Leaf} {Q : Leaf → Heap → Prop} {H : Heap} (len : Nat) (st : Nat → σ → List HV) (P : Nat → σ → Heap → Prop) (x0 : σ) {vs : List HV} (hv : vs = st 0 x0) (h0 : P 0 x0 H)
  (hb : ∀ i x H, i < len → P i x H → wp (f (st i x)) (PNext st P (i + 1) Q) H) (he : ∀ x H, P len x H → wp (f (st len x)) (PEnd Q) H) : wp (loopD f vs) Q H := by
 refine wp_loop (fun k vs H => ∃ i x, i ≤ len ∧ k = len - i ∧ vs = st i x ∧ P i x H) len ⟨0, x0, by omega, by omega, hv, h0⟩ ?_
 rintro k vs H ⟨i, x, hi, rfl, rfl, hp⟩
 by_cases hlt : i < len
 ·refine (hb i x H hlt hp).mono ?_
  intro l H' hl
  cases l with
  | norm vs =>
   obtain ⟨x', h1, h2⟩ := hl
   exact ⟨len - (i + 1), by omega, i + 1, x', by omega, rfl, h1, h2⟩
  | exit j vs => exact hl
  | ret vs => exact hl
 ·have : i = len := by omega
  subst this
  refine (he x H hp).mono ?_
  intro l H' hl
  cases l with
  | norm vs => exact hl.elim
  | exit j vs => exact hl
  | ret vs => exact hl
theorem wr_small {n : Int} (h : -9223372036854775808 ≤ n) (h2 : n ≤ 9223372036854775807) : wr n = n := IntWalk.i64_in n ⟨h, h2⟩
end Go.Proofs.YtbphjihgbenkdaaGreat.HQ
