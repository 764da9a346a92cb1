/- Lemmas for the row. Conditions: none. -/
import Derived.Test.YtbphjihgbenkdaaGreatHQLt
namespace Go.Proofs.YtbphjihgbenkdaaGreat.HQ
set_option linter.unusedVariables false
set_option linter.unusedSectionVars false
set_option linter.unusedSimpArgs false
open Go
abbrev Cel := HObj × Option (Nat × Option Nat)
abbrev Pc := Nat → Option Cel
abbrev HP := Pc → Prop
def Pc.no : Pc := fun _ => none
def Pc.one (b : Nat) (c : Cel) : Pc := fun x => if x = b then some c else none
def Pc.un (a b : Pc) : Pc := fun x => match a x with
 | some c => some c
 | none => b x
def Pc.dj (a b : Pc) : Prop := ∀ x, a x = none ∨ b x = none
def Al : List HP → HP
 | [], h => h = Pc.no
 | A :: P, h => ∃ a b, Pc.dj a b ∧ h = Pc.un a b ∧ A a ∧ Al P b
theorem Pc.un_none {a b : Pc} {x : Nat} : Pc.un a b x = none ↔ a x = none ∧ b x = none := by
 unfold Pc.un; cases a x <;> simp
theorem Pc.dj_un {a b c : Pc} : Pc.dj a (Pc.un b c) ↔ Pc.dj a b ∧ Pc.dj a c := by
 constructor
 ·intro h
  refine ⟨fun x => ?_, fun x => ?_⟩ <;> rcases h x with h | h
  ·exact .inl h
  ·exact .inr (Pc.un_none.1 h).1
  ·exact .inl h
  ·exact .inr (Pc.un_none.1 h).2
 ·rintro ⟨h1, h2⟩ x
  rcases h1 x with h | h
  ·exact .inl h
  ·rcases h2 x with g | g
   ·exact .inl g
   ·exact .inr (Pc.un_none.2 ⟨h, g⟩)
theorem Pc.dj_comm {a b : Pc} (h : Pc.dj a b) : Pc.dj b a := fun x => (h x).symm
theorem Pc.un_comm {a b : Pc} (h : Pc.dj a b) : Pc.un a b = Pc.un b a := by
 funext x; unfold Pc.un; rcases h x with h | h <;> rw [h]
 ·cases b x <;> rfl
 ·cases a x <;> rfl
theorem Pc.un_assoc {a b c : Pc} : Pc.un (Pc.un a b) c = Pc.un a (Pc.un b c) := by
 funext x; unfold Pc.un; cases a x <;> rfl
theorem Pc.no_un {a : Pc} : Pc.un Pc.no a = a := by funext x; rfl
theorem Pc.dj_no {a : Pc} : Pc.dj a Pc.no := fun _ => .inr rfl
theorem Al.swap {A B : HP} {P : List HP} {h : Pc} (H : Al (A :: B :: P) h) : Al (B :: A :: P) h := by
 obtain ⟨a, bc, h1, rfl, h2, b, c, h3, rfl, h4, h5⟩ := H
 obtain ⟨d1, d2⟩ := Pc.dj_un.1 h1
 refine ⟨b, Pc.un a c, Pc.dj_un.2 ⟨Pc.dj_comm d1, h3⟩, ?_, h4, a, c, d2, rfl, h2, h5⟩
 rw [← Pc.un_assoc, Pc.un_comm d1, Pc.un_assoc]
theorem Al.perm {P P' : List HP} (hp : P.Perm P') : ∀ {h : Pc}, Al P h → Al P' h := by
 induction hp with
 | nil => exact id
 | cons A _ ih => rintro h ⟨a, b, h1, h2, h3, h4⟩; exact ⟨a, b, h1, h2, h3, ih h4⟩
 | swap A B P => exact Al.swap
 | trans _ _ i1 i2 => exact fun h => i2 (i1 h)
theorem Al.app : ∀ {P F : List HP} {h : Pc}, Al (P ++ F) h ↔ ∃ a b, Pc.dj a b ∧ h = Pc.un a b ∧ Al P a ∧ Al F b
 | [], F, h => ⟨fun q => ⟨Pc.no, h, Pc.dj_comm Pc.dj_no, Pc.no_un.symm, rfl, q⟩, fun ⟨a, b, h1, h2, h3, h4⟩ => by
   have h3 : a = Pc.no := h3
   subst h3; rw [Pc.no_un] at h2; subst h2; exact h4⟩
 | A :: P, F, h => by
  constructor
  ·rintro ⟨a, b, h1, rfl, h3, h4⟩
   obtain ⟨c, d, g1, rfl, g3, g4⟩ := Al.app.1 h4
   obtain ⟨d1, d2⟩ := Pc.dj_un.1 h1
   exact ⟨Pc.un a c, d, Pc.dj_comm (Pc.dj_un.2 ⟨Pc.dj_comm d2, Pc.dj_comm g1⟩), Pc.un_assoc.symm, ⟨a, c, d1, rfl, h3, g3⟩, g4⟩
  ·rintro ⟨_, d, h1, rfl, ⟨a, c, d1, rfl, h3, g3⟩, g4⟩
   obtain ⟨e1, e2⟩ := Pc.dj_un.1 (Pc.dj_comm h1)
   exact ⟨a, Pc.un c d, Pc.dj_un.2 ⟨d1, Pc.dj_comm e1⟩, Pc.un_assoc, h3, Al.app.2 ⟨c, d, Pc.dj_comm e2, rfl, g3, g4⟩⟩
def Fit (H0 H : Heap) (h : Pc) : Prop := ∀ x c, h x = some c → H0.n ≤ x ∧ x < H.n ∧ H.get x = c.1 ∧ ∀ t, c.2 = some t → H.ty x = some t
structure Kq (H H' : Heap) : Prop where
 k : Keeps H H'
 t : ∀ b q, b < H.n → H.ty b = some q → H'.ty b = some q
theorem Kp.kq {H H' : Heap} (h : Kp H H') : Kq H H' := ⟨h.k, fun b q hb e => by rw [h.t b hb]; exact e⟩
theorem Kq.refl (H : Heap) : Kq H H := (Kp.refl H).kq
theorem Kq.trans {H1 H2 H3 : Heap} (a : Kq H1 H2) (b : Kq H2 H3) : Kq H1 H3 := ⟨a.k.trans b.k, fun x q hx e => b.t x q (Nat.lt_of_lt_of_le hx a.k.n) (a.t x q hx e)⟩
structure Ho (H0 H : Heap) (P : List HP) : Prop where
 kp : Kq H0 H
 mem : ∃ h, Al P h ∧ Fit H0 H h
theorem Ho.nil (H : Heap) : Ho H H [] := ⟨.refl H, Pc.no, rfl, fun x c e => by cases e⟩
section
variable {H0 H : Heap} {P P' F : List HP} {A : HP}
theorem Ho.perm (h : Ho H0 H P) (hp : P.Perm P') : Ho H0 H P' := by
 obtain ⟨k, m, h1, h2⟩ := h; exact ⟨k, m, h1.perm hp, h2⟩
theorem Fit.r {a b : Pc} (h : Fit H0 H (Pc.un a b)) (d : Pc.dj a b) : Fit H0 H b := fun x c e => h x c (by
 rcases d x with q | q
 ·unfold Pc.un; rw [q]; exact e
 ·rw [q] at e; cases e)
theorem Fit.un {a b : Pc} (h1 : Fit H0 H a) (h2 : Fit H0 H b) : Fit H0 H (Pc.un a b) := fun x c e => by
 unfold Pc.un at e
 split at e
 ·cases e; rename_i q; exact h1 x _ q
 ·exact h2 x c e
theorem Ho.tail (h : Ho H0 H (A :: P)) : Ho H0 H P := by
 obtain ⟨k, m, ⟨a, b, h1, rfl, h3, h4⟩, h2⟩ := h; exact ⟨k, b, h4, h2.r h1⟩
theorem Ho.keeps {H' : Heap} (h : Ho H0 H P) (k : Kp H H') : Ho H0 H' P := by
 obtain ⟨k0, m, h1, h2⟩ := h
 refine ⟨k0.trans k.kq, m, h1, fun x c e => ?_⟩
 obtain ⟨g1, g2, g3, g4⟩ := h2 x c e
 exact ⟨g1, Nat.lt_of_lt_of_le g2 k.k.n, by rw [k.k.get x g2]; exact g3, fun t ht => by rw [k.t x g2]; exact g4 t ht⟩
theorem Ho.new (h : Ho H0 H P) (t : Option (Nat × Option Nat)) (o : HObj) (hA : A (Pc.one H.n (o, t))) : Ho H0 (H.pushT t o) (A :: P) := by
 have h' := h.keeps (Kp.pushT H t o)
 have hn := h.kp.k.n
 obtain ⟨_, m, h1, h2⟩ := h
 refine ⟨h'.kp, Pc.un (Pc.one H.n (o, t)) m, ⟨_, _, fun x => ?_, rfl, hA, h1⟩, Fit.un (fun x c e => ?_) (fun x c e => ?_)⟩
 ·unfold Pc.one
  split
  ·right
   cases e : m x with
   | none => rfl
   | some c => have := (h2 x c e).2.1; omega
  ·exact .inl rfl
 ·unfold Pc.one at e
  split at e
  ·cases e; rename_i q; subst q
   exact ⟨hn, by simp [Heap.pushT], by simp [Heap.pushT], fun t' ht => by simpa [Heap.pushT] using ht⟩
  ·cases e
 ·obtain ⟨g1, g2, g3, g4⟩ := h2 x c e
  refine ⟨g1, by simp [Heap.pushT]; omega, ?_, fun t' ht => ?_⟩
  ·simp only [Heap.pushT]; rw [if_neg (by omega)]; exact g3
  ·simp only [Heap.pushT]; rw [if_neg (by omega)]; exact g4 t' ht
theorem Ho.upd {B : HP} {b : Nat} {c : Cel} (h : Ho H0 H (A :: P)) (hA : ∀ a, A a → a = Pc.one b c) (o : HObj) (hB : B (Pc.one b (o, c.2))) : Ho H0 (H.set b o) (B :: P) := by
 obtain ⟨k, m, ⟨a, r, h1, rfl, h3, h4⟩, h2⟩ := h
 have := hA a h3
 subst this
 have hb := h2 b c (by unfold Pc.un Pc.one; rw [if_pos rfl])
 have hr : ∀ x e, r x = some e → x ≠ b := fun x e q hx => by
  subst hx
  rcases h1 x with g | g
  ·unfold Pc.one at g; rw [if_pos rfl] at g; cases g
  ·rw [g] at q; cases q
 refine ⟨⟨k.k.set hb.1 o, k.t⟩, Pc.un (Pc.one b (o, c.2)) r, ⟨_, _, fun x => ?_, rfl, hB, h4⟩, Fit.un (fun x d e => ?_) (fun x d e => ?_)⟩
 ·rcases h1 x with g | g
  ·left; unfold Pc.one at g ⊢; split at g
   ·cases g
   ·rename_i q; rw [if_neg q]
  ·exact .inr g
 ·unfold Pc.one at e
  split at e
  ·cases e; rename_i q; subst q
   exact ⟨hb.1, hb.2.1, by simp [Heap.set], hb.2.2.2⟩
  ·cases e
 ·obtain ⟨g1, g2, g3, g4⟩ := (h2.r h1) x d e
  exact ⟨g1, g2, by simp only [Heap.set]; rw [if_neg (hr x d e)]; exact g3, g4⟩
end
def own {κ α : Type} (r : κ → α → HP) (k : κ) (x : α) : HP := r k x
def rC (b : Nat) (cs : List HV) : HP := fun h => ∃ t, h = Pc.one b (.cells cs false, t)
def rX (b : Nat) (s : Spc) : HP := fun h => ∃ t, h = Pc.one b (.spc s, t)
def rT (b : Nat) (x : (Nat × Option Nat) × List HV) : HP := fun h => h = Pc.one b (.cells x.2 false, some x.1)
def rCt (τ : Option (Nat × Option Nat)) (b : Nat) (cs : List HV) : HP := fun h => ∃ t, (∀ q, τ = some q → t = some q) ∧ h = Pc.one b (.cells cs false, t)
def rRt {α : Type} (τ : Option (Nat × Option Nat)) (f : α → List HV) (sz : Nat) (s : Sl) (xs : List α) : HP := fun h =>
 (∀ x ∈ xs, (f x).length = sz) ∧ 0 < sz ∧ s.len = xs.length ∧ s.len ≤ s.cap ∧ s.cap ≤ 9223372036854775807 ∧
 ((s = ⟨none, 0, 0, none⟩ ∧ h = Pc.no) ∨ ∃ b ext, s.p = some (b, 0) ∧ (s.opn = none ∨ s.opn = some sz) ∧ s.cap * sz = ((xs.map f).flatten ++ ext).length ∧ rCt τ b ((xs.map f).flatten ++ ext) h)
abbrev rR {α : Type} (f : α → List HV) (sz : Nat) : Sl → List α → HP := rRt none f sz
class Fnd (P : List HP) {κ α : Type} (r : κ → α → HP) (k : κ) (x : outParam α) (F : outParam (List HP)) : Prop where
 p : P.Perm (own r k x :: F)
instance (priority := 2000) fnd_hit {κ α : Type} {r : κ → α → HP} {k : κ} {x : α} {F : List HP} : Fnd (own r k x :: F) r k x F := ⟨.refl _⟩
instance fnd_miss {κ α : Type} {r : κ → α → HP} {k : κ} {x : α} {A : HP} {P F : List HP} [h : Fnd P r k x F] : Fnd (A :: P) r k x (A :: F) := ⟨(h.p.cons A).trans (.swap _ _ _)⟩
def Wp {α : Type} (H0 : Heap) (P : List HP) (m : M α) (Q : α → List HP → Prop) : Prop := ∀ H, Ho H0 H P → wp m (fun a H' => ∃ P', Q a P' ∧ Ho H0 H' P') H
def Pc.le (a b : Pc) : Prop := ∀ x c, a x = some c → b x = some c
def Ent (P P' : List HP) : Prop := ∀ h, Al P h → ∃ h', Al P' h' ∧ Pc.le h' h
theorem Fit.le {H0 H : Heap} {a b : Pc} (h : Fit H0 H b) (l : Pc.le a b) : Fit H0 H a := fun x c e => h x c (l x c e)
theorem Ho.ent {H0 H : Heap} {P P' : List HP} (h : Ho H0 H P) (e : Ent P P') : Ho H0 H P' := by
 obtain ⟨k, m, h1, h2⟩ := h
 obtain ⟨m', g1, g2⟩ := e m h1
 exact ⟨k, m', g1, h2.le g2⟩
def Clo' {α : Type} (Q : α → List HP → Prop) : α → List HP → Prop := fun a P => ∃ P', Q a P' ∧ Ent P P'
section
variable {α β : Type} {H0 : Heap} {P P' F : List HP} {m : M α} {Q Q' : α → List HP → Prop}
theorem Wp.cl (h : Wp H0 P m (Clo' Q)) : Wp H0 P m Q := fun H hH => (h H hH).mono fun _ _ ⟨_, ⟨P', q, e⟩, ho⟩ => ⟨P', q, ho.ent e⟩
theorem Wp.mono (h : Wp H0 P m Q') (hq : ∀ a P', Q' a P' → Q a P') : Wp H0 P m Q := fun H hH => (h H hH).mono fun a _ ⟨P', q, ho⟩ => ⟨P', hq a P' q, ho⟩
theorem Wp.ent (e : Ent P P') (h : Wp H0 P' m Q) : Wp H0 P m Q := fun H hH => h H (hH.ent e)
theorem Wp.ret {a : α} (h : Q a P) : Wp H0 P (ret a) Q := fun _ hH => wp_ret ⟨P, h, hH⟩
theorem Wp.call {m : M β} {k : β → M α} (h : Wp H0 P m (fun a P' => Wp H0 P' (k a) Q)) : Wp H0 P (bnd m k) Q :=
 fun H hH => wp_bnd ((h H hH).mono fun _ H' ⟨_, q, ho⟩ => q H' ho)
theorem Wp.fact {p : Prop} (hp : ∀ H, Ho H0 H P → p) (h : p → Wp H0 P m Q) : Wp H0 P m Q := fun H hH => h (hp H hH) H hH
theorem Ent.refl : Ent P P := fun h e => ⟨h, e, fun _ _ q => q⟩
theorem Ent.trans {P2 : List HP} (a : Ent P P') (b : Ent P' P2) : Ent P P2 := fun h e => by
 obtain ⟨h1, e1, l1⟩ := a h e
 obtain ⟨h2, e2, l2⟩ := b h1 e1
 exact ⟨h2, e2, fun x c q => l1 x c (l2 x c q)⟩
theorem Ent.perm (h : P.Perm P') : Ent P P' := fun m e => ⟨m, e.perm h, fun _ _ q => q⟩
theorem Ent.tail : Ent P [] := fun _ _ => ⟨Pc.no, rfl, fun _ _ e => by cases e⟩
theorem Ent.head {A B : HP} (ha : ∀ h, A h → B h) (h : Ent P P') : Ent (A :: P) (B :: P') := by
 rintro m ⟨a, b, d, rfl, h1, h2⟩
 obtain ⟨b', e1, e2⟩ := h b h2
 refine ⟨Pc.un a b', ⟨a, b', fun x => ?_, rfl, ha a h1, e1⟩, fun x c q => ?_⟩
 ·rcases d x with q | q
  ·exact .inl q
  ·right
   cases e : b' x with
   | none => rfl
   | some c => rw [e2 x c e] at q; cases q
 ·unfold Pc.un at q ⊢
  split at q
  ·exact q
  ·exact e2 x c q
theorem Ent.cons {κ γ : Type} {r : κ → γ → HP} {k : κ} {x x' : γ} [f : Fnd P r k x F] (hx : x = x') (h : Ent F P') : Ent P (own r k x' :: P') := by
 subst hx
 exact (Ent.perm f.p).trans (Ent.head (fun _ => id) h)
class Opn {κ γ : Type} (r : κ → γ → HP) (k : κ) (x : γ) (β : outParam Type) (p : outParam (β → Prop)) (L : outParam (β → List HP → List HP)) : Prop where
 e : ∀ h, r k x h ↔ ∃ y, p y ∧ Al (L y []) h
 a : ∀ y F, L y F = L y [] ++ F
theorem Ent.app {L F : List HP} {A : HP} (ha : ∀ h, A h → Al L h) : Ent (A :: F) (L ++ F) := by
 rintro m ⟨a, b, d, rfl, h1, h2⟩
 exact ⟨_, Al.app.2 ⟨a, b, d, rfl, ha a h1, h2⟩, fun _ _ q => q⟩
theorem Ent.fold' {L F : List HP} {A : HP} (ha : ∀ h, Al L h → A h) : Ent (L ++ F) (A :: F) := by
 intro m e
 obtain ⟨a, b, d, rfl, h1, h2⟩ := Al.app.1 e
 exact ⟨_, ⟨a, b, d, rfl, ha a h1, h2⟩, fun _ _ q => q⟩
theorem Ent.fold {κ γ β : Type} {r : κ → γ → HP} {k : κ} {x : γ} {p : β → Prop} {L : β → List HP → List HP} [o : Opn r k x β p L] (y : β) (hp : p y) (h : Ent P (L y P')) : Ent P (own r k x :: P') := by
 rw [o.a] at h
 exact h.trans (Ent.fold' fun m e => (o.e m).2 ⟨y, hp, e⟩)
theorem Wp.open {κ γ β : Type} (r : κ → γ → HP) (k : κ) {x : γ} {p : β → Prop} {L : β → List HP → List HP} [f : Fnd P r k x F] [o : Opn r k x β p L] (h : ∀ y, p y → Wp H0 (L y F) m Q) : Wp H0 P m Q := fun H hH => by
 have h1 := hH.perm f.p
 obtain ⟨kp, w, ⟨a, b, d, e, h2, h3⟩, h4⟩ := h1
 obtain ⟨y, hy, h5⟩ := (o.e a).1 h2
 have := h y hy
 rw [o.a] at this
 exact this H ⟨kp, w, Al.app.2 ⟨a, b, d, e, h5, h3⟩, h4⟩
end
class V1 {α : Type} (H0 : Heap) (P : List HP) (m : M α) (Q : α → List HP → Prop) (R : outParam Prop) : Prop where
 w : R → Wp H0 P m Q
class V {α : Type} (H0 : Heap) (P : List HP) (m : M α) (Q : α → List HP → Prop) (R : outParam Prop) : Prop where
 w : R → Wp H0 P m Q
section
variable {α β : Type} {H0 : Heap} {P F : List HP} {m x y : M α} {Q : α → List HP → Prop} {r : List HV} {R R2 : Prop}
instance (priority := 1000) vi_1 [h : V1 H0 P m Q R] : V H0 P m Q R := ⟨h.w⟩
instance (priority := 10) vi_stop : V H0 P m Q (Wp H0 P m Q) := ⟨id⟩
theorem go [h : V1 H0 P m Q R] (hr : R) : Wp H0 P m Q := h.w hr
theorem Wp.red {m' : M α} (h : ∀ {Q : α → Heap → Prop} {H : Heap}, wp m' Q H → wp m Q H) (h' : Wp H0 P m' Q) : Wp H0 P m Q := fun H hH => h (h' H hH)
instance vi_asI {k : IntKind} {n : Int} {f : Int → M α} [h : V H0 P (f n) Q R] : V1 H0 P (asI k (.int k n) f) Q R := ⟨fun q => .red wp_asI (h.w q)⟩
instance vi_asB {b : Bool} {f : Bool → M α} [h : V H0 P (f b) Q R] : V1 H0 P (asB (.bool b) f) Q R := ⟨fun q => .red wp_asB (h.w q)⟩
instance vi_asS {b : ByteArray} {f : ByteArray → M α} [h : V H0 P (f b) Q R] : V1 H0 P (asS (.str b) f) Q R := ⟨fun q => .red wp_asS (h.w q)⟩
instance vi_asP {b : Option (Nat × Nat)} {f : Option (Nat × Nat) → M α} [h : V H0 P (f b) Q R] : V1 H0 P (asP (.ptr b) f) Q R := ⟨fun q => .red wp_asP (h.w q)⟩
instance vi_asSl {b : Sl} {f : Sl → M α} [h : V H0 P (f b) Q R] : V1 H0 P (asSl (.sl b) f) Q R := ⟨fun q => .red wp_asSl (h.w q)⟩
instance vi_asA {b : List HV} {f : List HV → M α} [h : V H0 P (f b) Q R] : V1 H0 P (asA (.agg b) f) Q R := ⟨fun q => .red wp_asA (h.w q)⟩
instance vi_asT {b : List HV} {f : List HV → M α} [h : V H0 P (f b) Q R] : V1 H0 P (asT (.tup b) f) Q R := ⟨fun q => .red wp_asT (h.w q)⟩
instance vi_uc {v : HV} {f : HV → List HV → M α} [h : V H0 P (f v r) Q R] : V1 H0 P (uc (v :: r) f) Q R := ⟨fun q => .red wp_uc (h.w q)⟩
instance vi_uI {k : IntKind} {n : Int} {f : Int → List HV → M α} [h : V H0 P (f n r) Q R] : V1 H0 P (uI k (.int k n :: r) f) Q R := ⟨fun q => .red wp_uI (h.w q)⟩
instance vi_uB {b : Bool} {f : Bool → List HV → M α} [h : V H0 P (f b r) Q R] : V1 H0 P (uB (.bool b :: r) f) Q R := ⟨fun q => .red wp_uB (h.w q)⟩
instance vi_uS {b : ByteArray} {f : ByteArray → List HV → M α} [h : V H0 P (f b r) Q R] : V1 H0 P (uS (.str b :: r) f) Q R := ⟨fun q => .red wp_uS (h.w q)⟩
instance vi_uP {b : Option (Nat × Nat)} {f : Option (Nat × Nat) → List HV → M α} [h : V H0 P (f b r) Q R] : V1 H0 P (uP (.ptr b :: r) f) Q R := ⟨fun q => .red wp_uP (h.w q)⟩
instance vi_uL {b : Sl} {f : Sl → List HV → M α} [h : V H0 P (f b r) Q R] : V1 H0 P (uL (.sl b :: r) f) Q R := ⟨fun q => .red wp_uL (h.w q)⟩
instance vi_uA {b : List HV} {f : List HV → List HV → M α} [h : V H0 P (f b r) Q R] : V1 H0 P (uA (.agg b :: r) f) Q R := ⟨fun q => .red wp_uA (h.w q)⟩
instance vi_nl [h : V H0 P m Q R] : V1 H0 P (nl [] m) Q R := ⟨fun q => .red wp_nl (h.w q)⟩
theorem wp_mP' {b o : Nat} {f : Nat → Nat → M α} {Q : α → Heap → Prop} {H : Heap} (h : wp (f b o) Q H) : wp (mP (some (b, o)) f) Q H := by rw [mP_eq']; exact h
instance vi_mP {b o : Nat} {f : Nat → Nat → M α} [h : V H0 P (f b o) Q R] : V1 H0 P (mP (some (b, o)) f) Q R := ⟨fun q => .red wp_mP' (h.w q)⟩
instance vi_ny {i : Nat} {a c : List HV} [h : V H0 P m Q R] : V1 H0 P (ny (.func i a c) m) Q R := ⟨fun q => .red (fun h => h) (h.w q)⟩
/-! branches -/
theorem Wp.cond {b : Bool} (h1 : b = true → Wp H0 P x Q) (h2 : b = false → Wp H0 P y Q) : Wp H0 P (cond b x y) Q := by
 cases b
 ·exact h2 rfl
 ·exact h1 rfl
instance (priority := 100) vi_cond {b : Bool} [h : V H0 P x Q R] [h2 : V H0 P y Q R2] : V1 H0 P (cond b x y) Q ((b = true → R) ∧ (b = false → R2)) := ⟨fun q => .cond (fun c => h.w (q.1 c)) (fun c => h2.w (q.2 c))⟩
instance (priority := 2000) vi_condT [h : V H0 P x Q R] : V1 H0 P (cond true x y) Q R := ⟨h.w⟩
instance (priority := 2000) vi_condF [h : V H0 P y Q R] : V1 H0 P (cond false x y) Q R := ⟨h.w⟩
instance (priority := 2000) vi_condNT [h : V H0 P y Q R] : V1 H0 P (cond (!true) x y) Q R := ⟨h.w⟩
instance (priority := 2000) vi_condNF [h : V H0 P x Q R] : V1 H0 P (cond (!false) x y) Q R := ⟨h.w⟩
instance vi_condD {p : Prop} [Decidable p] [h : V H0 P x Q R] [h2 : V H0 P y Q R2] : V1 H0 P (cond (decide p) x y) Q ((p → R) ∧ (¬ p → R2)) := ⟨fun q => .cond (fun c => h.w (q.1 (of_decide_eq_true c))) (fun c => h2.w (q.2 (of_decide_eq_false c)))⟩
instance vi_condE {a b : Int} [h : V H0 P x Q R] [h2 : V H0 P y Q R2] : V1 H0 P (cond (a == b) x y) Q ((a = b → R) ∧ (a ≠ b → R2)) := ⟨fun q => .cond (fun c => h.w (q.1 (by simpa using c))) (fun c => h2.w (q.2 (by simpa using c)))⟩
instance vi_condNE {a b : Int} [h : V H0 P x Q R] [h2 : V H0 P y Q R2] : V1 H0 P (cond (a != b) x y) Q ((a ≠ b → R) ∧ (a = b → R2)) := ⟨fun q => .cond (fun c => h.w (q.1 (by simpa using c))) (fun c => h2.w (q.2 (by simpa using c)))⟩
instance (priority := 1500) vi_condEr {a : Int} [h : V H0 P x Q R] : V1 H0 P (cond (a == a) x y) Q R := ⟨fun q => by rw [beq_self_eq_true]; exact h.w q⟩
instance (priority := 1500) vi_condNEr {a : Int} [h : V H0 P y Q R] : V1 H0 P (cond (a != a) x y) Q R := ⟨fun q => by rw [bne_self_eq_false]; exact h.w q⟩
instance (priority := 200) vi_condN {b : Bool} [h : V H0 P x Q R] [h2 : V H0 P y Q R2] : V1 H0 P (cond (!b) x y) Q ((b = false → R) ∧ (b = true → R2)) := ⟨fun q => .cond (fun c => h.w (q.1 (by simpa using c))) (fun c => h2.w (q.2 (by simpa using c)))⟩
instance (priority := 2000) vi_isN {τ : Type} [h : V H0 P x Q R] : V1 H0 P (cond (Option.isNone (none : Option τ)) x y) Q R := ⟨h.w⟩
instance (priority := 2000) vi_isS {τ : Type} {v : τ} [h : V H0 P y Q R] : V1 H0 P (cond (Option.isNone (some v)) x y) Q R := ⟨h.w⟩
instance (priority := 2000) vi_nisS {τ : Type} {v : τ} [h : V H0 P x Q R] : V1 H0 P (cond (!(Option.isNone (some v))) x y) Q R := ⟨h.w⟩
instance (priority := 100) vi_gd {b : Bool} [h : V H0 P m Q R] : V1 H0 P (gd b m) Q (b = true ∧ R) := ⟨fun q => .red (wp_gd q.1) (h.w q.2)⟩
instance vi_gdD {p : Prop} [Decidable p] [h : V H0 P m Q R] : V1 H0 P (gd (decide p) m) Q (p ∧ R) := ⟨fun q => .red (wp_gdD q.1) (h.w q.2)⟩
instance (priority := 1500) vi_gdR {a : Int} [h : V H0 P m Q R] : V1 H0 P (gd (decide (a ≤ a)) m) Q R := ⟨fun q => .red (wp_gdD (Int.le_refl a)) (h.w q)⟩
instance vi_gdP {p : Prop} [h : V H0 P m Q R] : V1 H0 P (gdP p m) Q (p ∧ R) := ⟨fun q => .red (wp_gdP q.1) (h.w q.2)⟩
class Was (H0 H : Heap) (P : List HP) : Prop where
 h : Ho H0 H P
instance vi_snp {f : Heap → M α} {R : Heap → Prop} [h : ∀ Hs, V H0 P (f Hs) Q (R Hs)] : V1 H0 P (snp true f) Q (∀ Hs, Was H0 Hs P → R Hs) := ⟨fun q H hH => by
 obtain ⟨n0, a, H', h1, h2⟩ := (h H).w (q H ⟨hH⟩) H hH
 exact ⟨n0, a, H', h1, h2⟩⟩
instance vi_call {m : M β} {k : β → M α} : V1 H0 P (bnd m k) Q (Wp H0 P m (fun a P' => Wp H0 P' (k a) Q)) := ⟨Wp.call⟩
end
/-! memory -/
section
variable {α β : Type} {H0 H : Heap} {P F : List HP} {m : M α} {Q : α → List HP → Prop} {R : Prop}
theorem Ho.rC {b : Nat} {cs : List HV} (h : Ho H0 H (own rC b cs :: F)) : H0.n ≤ b ∧ b < H.n ∧ H.get b = .cells cs false := by
 obtain ⟨k, m, ⟨a, r, h1, rfl, ⟨t, rfl⟩, h4⟩, h2⟩ := h
 obtain ⟨g1, g2, g3, _⟩ := h2 b (.cells cs false, t) (by unfold Pc.un Pc.one; rw [if_pos rfl])
 exact ⟨g1, g2, g3⟩
theorem Ho.rX {b : Nat} {s : Spc} (h : Ho H0 H (own rX b s :: F)) : H0.n ≤ b ∧ b < H.n ∧ H.get b = .spc s := by
 obtain ⟨k, m, ⟨a, r, h1, rfl, ⟨t, rfl⟩, h4⟩, h2⟩ := h
 obtain ⟨g1, g2, g3, _⟩ := h2 b (.spc s, t) (by unfold Pc.un Pc.one; rw [if_pos rfl])
 exact ⟨g1, g2, g3⟩
theorem Ho.one {A B : HP} {b : Nat} {cs : HObj} (h : Ho H0 H (A :: F)) (hA : ∀ a, A a → ∃ t, a = Pc.one b (cs, t)) (o : HObj) (hB : ∀ t, B (Pc.one b (o, t))) : Ho H0 (H.set b o) (B :: F) := by
 obtain ⟨k, m, ⟨a, r, h1, rfl, h3, h4⟩, h2⟩ := h
 obtain ⟨t, rfl⟩ := hA a h3
 exact (Ho.upd (A := fun h => h = Pc.one b (cs, t)) ⟨k, _, ⟨_, r, h1, rfl, rfl, h4⟩, h2⟩ (fun _ e => e) o (hB t))
theorem Ho.rC_set {b : Nat} {cs : List HV} (h : Ho H0 H (own HQ.rC b cs :: F)) (cs' : List HV) : Ho H0 (H.set b (.cells cs' false)) (own HQ.rC b cs' :: F) :=
 h.one (fun _ e => e) _ (fun t => ⟨t, rfl⟩)
theorem Ho.rX_set {b : Nat} {s : Spc} (h : Ho H0 H (own HQ.rX b s :: F)) (s' : Spc) : Ho H0 (H.set b (.spc s')) (own HQ.rX b s' :: F) :=
 h.one (fun _ e => e) _ (fun t => ⟨t, rfl⟩)
theorem Was.eq {h1 h2 : Heap} {P1 P2 F1 F2 : List HP} {b : Nat} {cs : List HV} (a : Was H0 h1 P1) (c : Was H0 h2 P2) [f1 : Fnd P1 rC b cs F1] [f2 : Fnd P2 rC b cs F2] : h1.get b = h2.get b := by
 rw [((a.h.perm f1.p).rC).2.2, ((c.h.perm f2.p).rC).2.2]
instance vi_ldC {b o : Nat} {cs : List HV} {v : HV} {f : HV → M α} [q : Fnd P rC b cs F] [a : At cs o v] [h : V H0 P (f v) Q R] : V1 H0 P (ldC b o f) Q R :=
 ⟨fun e H hH => wp_ldG (hH.perm q.p).rC.2.2 a.at_ (h.w e H hH)⟩
theorem Wp.ldC {b o : Nat} {cs : List HV} {v : HV} {f : HV → M α} [q : Fnd P rC b cs F] (hv : cs[o]? = some v) (h : Wp H0 P (f v) Q) : Wp H0 P (ldC b o f) Q :=
 fun H hH => wp_ldG (hH.perm q.p).rC.2.2 hv (h H hH)
theorem Wp.ldN {b o n : Nat} {cs vs : List HV} {f : List HV → M α} [q : Fnd P rC b cs F] (hn : o + n ≤ cs.length) (hv : (cs.drop o).take n = vs) (h : Wp H0 P (f vs) Q) : Wp H0 P (ldN b o n f) Q :=
 fun H hH => wp_ldGN (hH.perm q.p).rC.2.2 hn (by rw [hv]; exact h H hH)
class Pt (cs : List HV) (o : Nat) (v : HV) (cs' : outParam (List HV)) : Prop where
 lt : o < cs.length
 e : cs.set o v = cs'
instance pt_zero {v x : HV} {r : List HV} : Pt (x :: r) 0 v (v :: r) := ⟨by simp, rfl⟩
instance pt_succ {x v : HV} {r r' : List HV} {o : Nat} [h : Pt r o v r'] : Pt (x :: r) (o + 1) v (x :: r') := ⟨by simp [h.lt], by rw [List.set_cons_succ, h.e]⟩
class Sca (v : HV) : Prop where
 e : v.sc = true
instance sca_int {k : IntKind} {n : Int} : Sca (.int k n) := ⟨rfl⟩
instance sca_bool {b : Bool} : Sca (.bool b) := ⟨rfl⟩
instance sca_str {b : ByteArray} : Sca (.str b) := ⟨rfl⟩
instance sca_ptr {b : Option (Nat × Nat)} : Sca (.ptr b) := ⟨rfl⟩
instance sca_sl {b : Sl} : Sca (.sl b) := ⟨rfl⟩
theorem Wp.stC {b o : Nat} {cs cs' : List HV} {v : HV} [q : Fnd P rC b cs F] (ho : o < cs.length) (he : cs.set o v = cs') (hv : v.sc = true) (h : Wp H0 (own rC b cs' :: F) m Q) : Wp H0 P (stC b o v m) Q :=
 fun H hH => wp_stC (hH.perm q.p).rC.2.2 ho hv (h _ (by subst he; exact (hH.perm q.p).rC_set _))
instance vi_stC {b o : Nat} {cs cs' : List HV} {v : HV} [q : Fnd P rC b cs F] [a : Pt cs o v cs'] [s : Sca v] [h : V H0 (own rC b cs' :: F) m Q R] : V1 H0 P (stC b o v m) Q R :=
 ⟨fun e => Wp.stC a.lt a.e s.e (h.w e)⟩
theorem Wp.stN {b o : Nat} {cs vs cs' : List HV} [q : Fnd P rC b cs F] (ho : o + vs.length ≤ cs.length) (he : putN cs o vs = cs') (h : Wp H0 (own rC b cs' :: F) m Q) : Wp H0 P (stN b o vs m) Q := fun H hH => by
 subst he
 refine wp_of (m' := m) (H' := H.set b (.cells (putN cs o vs) false)) (fun n => ?_) (h _ ((hH.perm q.p).rC_set _))
 unfold HQ.stN; simp only [(hH.perm q.p).rC.2.2]; rw [show decide (o + vs.length ≤ cs.length) = true from by simpa using ho]; rfl
instance vi_nw {cs : List HV} {f : Nat → M α} {R : Nat → Prop} [h : ∀ b, V H0 (own rC b cs :: P) (f b) Q (R b)] : V1 H0 P (nw cs f) Q (∀ b, R b) :=
 ⟨fun e _H hH => wp_nw ((h _).w (e _) _ (hH.new none _ ⟨none, rfl⟩))⟩
instance vi_nwL {k : Nat} {vs : List (Nat × HV)} {f : Nat → M α} {R : Nat → Prop} [h : ∀ b, V H0 (own rX b (.loop k vs .ready none) :: P) (f b) Q (R b)] : V1 H0 P (nwL k vs f) Q (∀ b, R b) :=
 ⟨fun e _H hH => wp_nwL ((h _).w (e _) _ (hH.new none _ ⟨none, rfl⟩))⟩
theorem wp_nwT' {t : Nat × Option Nat} {cs : List HV} {f : Nat → M α} {Q : α → Heap → Prop} (h : wp (f H.n) Q (H.pushT (some t) (.cells cs false))) : wp (nwT t cs f) Q H := h
instance vi_nwT {t : Nat × Option Nat} {cs : List HV} {f : Nat → M α} {R : Nat → Prop} [h : ∀ b, V H0 (own rT b (t, cs) :: P) (f b) Q (R b)] : V1 H0 P (nwT t cs f) Q (∀ b, R b) :=
 ⟨fun e _H hH => wp_nwT' ((h _).w (e _) _ (hH.new (some t) _ rfl))⟩
instance vi_busy {l k : Nat} {vs : List (Nat × HV)} {pd : Option Code} [q : Fnd P rX l (.loop k vs .ready pd) F] [h : V H0 (own rX l (.loop k vs .busy pd) :: F) m Q R] : V1 H0 P (busyL l m) Q R :=
 ⟨fun e _H hH => wp_busyL (hH.perm q.p).rX.2.2 (h.w e _ ((hH.perm q.p).rX_set _))⟩
instance vi_end0 {l k : Nat} {vs : List (Nat × HV)} {K0 Kr : M α} {Kx : Nat → M α} [q : Fnd P rX l (.loop k vs .ready none) F] [h : V H0 (own rX l (.loop k vs .exhausted none) :: F) K0 Q R] : V1 H0 P (endL l K0 Kx Kr) Q R :=
 ⟨fun e H hH => wp_endL0 (hH.perm q.p).rX.2.2 (by simp) (h.w e _ ((hH.perm q.p).rX_set _))⟩
theorem Wp.gdS {sl : List Nat} {vs : List (Nat × HV)} {f : List HV → M α} (hs : vs.map Prod.fst = sl) (h : Wp H0 P (f (vs.map Prod.snd)) Q) : Wp H0 P (gdS sl vs f) Q := .red (wp_gdS hs) h
instance vi_gdS1 {a0 : Nat} {x0 : HV} {f : List HV → M α} [h : V H0 P (f [x0]) Q R] : V1 H0 P (gdS [a0] [(a0, x0)] f) Q R := ⟨fun q => Wp.gdS rfl (h.w q)⟩
instance vi_gdS3 {a0 a1 a2 : Nat} {x0 x1 x2 : HV} {f : List HV → M α} [h : V H0 P (f [x0, x1, x2]) Q R] : V1 H0 P (gdS [a0, a1, a2] [(a0, x0), (a1, x1), (a2, x2)] f) Q R := ⟨fun q => Wp.gdS rfl (h.w q)⟩
instance vi_gdS5 {a0 a1 a2 a3 a4 : Nat} {x0 x1 x2 x3 x4 : HV} {f : List HV → M α} [h : V H0 P (f [x0, x1, x2, x3, x4]) Q R] : V1 H0 P (gdS [a0, a1, a2, a3, a4] [(a0, x0), (a1, x1), (a2, x2), (a3, x3), (a4, x4)] f) Q R := ⟨fun q => Wp.gdS rfl (h.w q)⟩
end
section
variable {H0 : Heap} {P F : List HP} {vs : List HV} {R : Prop}
def SFin (Q : HV → List HP → Prop) : Leaf → List HP → Prop := fun l P => match l with
 | .ret [v] => Q v P
 | .ret vs => Q (.tup vs) P
 | _ => False
def SNorm (H0 : Heap) (K : List HV → M Leaf) (Q : Leaf → List HP → Prop) : Leaf → List HP → Prop := fun l P => match l with
 | .norm vs => Wp H0 P (K vs) Q
 | l => Q l P
def SBlk (H0 : Heap) (id : Nat) (K : List HV → M Leaf) (Q : Leaf → List HP → Prop) : Leaf → List HP → Prop := fun l P => match l with
 | .norm vs => Wp H0 P (K vs) Q
 | .exit i vs => match Nat.beq i id with
  | true => Wp H0 P (K vs) Q
  | false => Q (.exit i vs) P
 | l => Q l P
section
variable {Q : HV → List HP → Prop}
theorem Wp.fin {m : M Leaf} (h : Wp H0 P m (SFin Q)) : Wp H0 P (fin m) Q := fun H hH => wp_fin ((h H hH).mono fun l H' ⟨P', q, ho⟩ => by
 match l, q with
 | .ret [], q => exact ⟨P', q, ho⟩
 | .ret [v], q => exact ⟨P', q, ho⟩
 | .ret (v :: u :: r), q => exact ⟨P', q, ho⟩)
instance vi_retH {v : HV} : V1 H0 P (ret v) Q (Q v P) := ⟨fun q => .ret q⟩
instance vi_fin {m : M Leaf} [h : V H0 P m (SFin Q) R] : V1 H0 P (fin m) Q R := ⟨fun q => .fin (h.w q)⟩
instance vi_rF {v : HV} : V1 H0 P (ret (.ret [v])) (SFin Q) (Q v P) := ⟨fun q => .ret q⟩
instance vi_rF0 : V1 H0 P (ret (.ret [])) (SFin Q) (Q (.tup []) P) := ⟨fun q => .ret q⟩
instance vi_rF2 {v u : HV} {r : List HV} : V1 H0 P (ret (.ret (v :: u :: r))) (SFin Q) (Q (.tup (v :: u :: r)) P) := ⟨fun q => .ret q⟩
end
variable {Q : Leaf → List HP → Prop} {K : List HV → M Leaf} {m : M Leaf} {id i : Nat}
theorem Wp.jn (h : Wp H0 P m (SNorm H0 K Q)) : Wp H0 P (jn m K) Q := fun H hH => wp_jn ((h H hH).mono fun l H' ⟨P', q, ho⟩ => by
 cases l with
 | norm vs => exact q H' ho
 | exit i vs => exact ⟨P', q, ho⟩
 | ret vs => exact ⟨P', q, ho⟩)
theorem Wp.blk (h : Wp H0 P m (SBlk H0 id K Q)) : Wp H0 P (blk id m K) Q := fun H hH => wp_blk ((h H hH).mono fun l H' ⟨P', q, ho⟩ => by
 cases l with
 | norm vs => exact q H' ho
 | exit i vs =>
  unfold SBlk at q
  unfold PBlk
  simp only at q ⊢
  cases hb : Nat.beq i id with
  | true => rw [hb] at q; exact q H' ho
  | false => rw [hb] at q; exact ⟨P', q, ho⟩
 | ret vs => exact ⟨P', q, ho⟩)
theorem Wp.retI {a : Leaf} (h : Wp H0 P (HQ.ret a) Q) : ∀ H, Ho H0 H P → ∃ P', Q a P' ∧ Ho H0 H P' := fun H hH => by
 obtain ⟨n, b, H', h1, h2⟩ := h H hH
 have := h1 n (Nat.le_refl _)
 cases this
 exact h2
instance vi_jn [h : V H0 P m (SNorm H0 K Q) R] : V1 H0 P (jn m K) Q R := ⟨fun q => .jn (h.w q)⟩
instance vi_blk [h : V H0 P m (SBlk H0 id K Q) R] : V1 H0 P (blk id m K) Q R := ⟨fun q => .blk (h.w q)⟩
instance (priority := 3000) vi_blkL {f : List HV → M Leaf} {vs : List HV} : V H0 P (blk id (loopD f vs) K) Q (Wp H0 P (blk id (loopD f vs) K) Q) := ⟨fun h => h⟩
instance vi_nN [h : V H0 P (K vs) Q R] : V1 H0 P (ret (.norm vs)) (SNorm H0 K Q) R := ⟨fun q => .ret (h.w q)⟩
instance vi_rN [h : V H0 P (ret (.ret vs)) Q R] : V1 H0 P (ret (.ret vs)) (SNorm H0 K Q) R := ⟨fun q H hH => wp_ret ((h.w q).retI H hH)⟩
instance vi_nB [h : V H0 P (K vs) Q R] : V1 H0 P (ret (.norm vs)) (SBlk H0 id K Q) R := ⟨fun q => .ret (h.w q)⟩
instance vi_rB [h : V H0 P (ret (.ret vs)) Q R] : V1 H0 P (ret (.ret vs)) (SBlk H0 id K Q) R := ⟨fun q H hH => wp_ret ((h.w q).retI H hH)⟩
instance vi_xB [h : V H0 P (K vs) Q R] : V1 H0 P (ret (.exit id vs)) (SBlk H0 id K Q) R := ⟨fun q => .ret (by unfold SBlk; simp only [Nat.beq_refl]; exact h.w q)⟩
instance (priority := 100) vi_xB' [h : V H0 P (ret (.exit i vs)) Q R] : V1 H0 P (ret (.exit i vs)) (SBlk H0 id K Q) (Nat.beq i id = false ∧ R) := ⟨fun q H hH => wp_ret (by
 obtain ⟨P', q1, q2⟩ := (h.w q.2).retI H hH
 refine ⟨P', ?_, q2⟩
 unfold SBlk; simp only [q.1]; exact q1)⟩
def SRnd (l : Nat) (k : Nat) (ws : List (Nat × HV)) (Q : HV → List HP → Prop) : Leaf → List HP → Prop := fun lf P => ∃ st pd F, Fnd P rX l (.loop k ws st pd) F ∧ match lf with
 | .norm _ => Q (.bool true) (own rX l (.loop k ws .ready none) :: F)
 | .exit id _ => Q (.bool false) (own rX l (.loop k ws .done (some (.exit id))) :: F)
 | .ret _ => Q (.bool false) (own rX l (.loop k ws .done (some .ret)) :: F)
section
variable {Q : HV → List HP → Prop} {l k : Nat} {ws : List (Nat × HV)} {st : LoopState} {pd : Option Code}
instance vi_nY [f : Fnd P rX l (.loop k ws st pd) F] : V1 H0 P (ret (.norm vs)) (SRnd l k ws Q) (Q (.bool true) (own rX l (.loop k ws .ready none) :: F)) := ⟨fun q => .ret ⟨st, pd, F, f, q⟩⟩
instance vi_xY [f : Fnd P rX l (.loop k ws st pd) F] : V1 H0 P (ret (.exit id vs)) (SRnd l k ws Q) (Q (.bool false) (own rX l (.loop k ws .done (some (.exit id))) :: F)) := ⟨fun q => .ret ⟨st, pd, F, f, q⟩⟩
theorem Wp.rnd {cl : List (Nat × Clo)} {rn : List (Nat × Rnd)} {D : DD} {args : List HV} {m : Rnd} [f : Fnd P rX l (.loop k ws st pd) F] (hm : lkA rn k = some m) (h : Wp H0 P (m D l ws args) (SRnd l k ws Q)) : Wp H0 P (stepD cl rn D (.yld l) args) Q :=
 fun H hH => wp_rnd (hH.perm f.p).rX.2.2 hm ((h H hH).mono fun lf H' ⟨P', ⟨st', pd', F', f', q⟩, ho⟩ => by
  have ho' := ho.perm f'.p
  cases lf with
  | norm vs => exact ⟨k, ws, st', pd', ho'.rX.2.2, _, q, ho'.rX_set _⟩
  | exit id vs => exact ⟨k, ws, st', pd', ho'.rX.2.2, _, q, ho'.rX_set _⟩
  | ret vs => exact ⟨k, ws, st', pd', ho'.rX.2.2, _, q, ho'.rX_set _⟩)
theorem Wp.clo {cl : List (Nat × Clo)} {rn : List (Nat × Rnd)} {D : DD} {args first cap : List HV} {i : Nat} {g : Clo} (hm : lkA cl i = some g) (h : Wp H0 P (g D (first ++ args ++ cap)) Q) : Wp H0 P (stepD cl rn D (.func i first cap) args) Q := .red (wp_clo hm) h
end
/-! counted loops -/
def SFor {σ : Type} (st : σ → Int → List HV) (J : Nat → σ → List HP → Prop) (i : Nat) (Q : Leaf → List HP → Prop) : Leaf → List HP → Prop := fun l P => match l with
 | .norm vs => ∃ x', vs = st x' (wr ((i : Int) + 1)) ∧ J (i + 1) x' P
 | l => Q l P
theorem Wp.for {σ : Type} (n : Nat) {len : Int} (hn : n ≤ 9223372036854775807) (hlen : len = (n : Int)) (st : σ → Int → List HV) {f : List HV → M Leaf} {B : σ → Int → M Leaf} {out : σ → List HV}
  (hf : ∀ x i, f (st x i) = _root_.cond (decide (i < len)) (B x i) (HQ.ret (.exit id (out x)))) (J : Nat → σ → List HP → Prop) (x0 : σ) {vs : List HV} (hv : vs = st x0 0) (h0 : J 0 x0 P)
  (hb : ∀ i x P, i < n → J i x P → Wp H0 P (B x i) (SFor st J i (SBlk H0 id K Q))) (he : ∀ x P, J n x P → Wp H0 P (K (out x)) Q) : Wp H0 P (HQ.blk id (loopD f vs) K) Q := fun H hH => by
 refine wp_for n hn hlen st hf (Nat.beq_refl id) (fun i x H => ∃ P, J i x P ∧ Ho H0 H P) x0 hv ⟨P, h0, hH⟩ ?_ ?_
 ·rintro i x H' hi ⟨P', hj, ho⟩
  refine (hb i x P' hi hj H' ho).mono ?_
  rintro l H2 ⟨P2, q, ho2⟩
  cases l with
  | norm vs => obtain ⟨x', e, q⟩ := q; exact ⟨x', e, P2, q, ho2⟩
  | exit j vs =>
   unfold SFor SBlk at q
   unfold PFor PBlk
   simp only at q ⊢
   cases hb : Nat.beq j id with
   | true => rw [hb] at q; exact q H2 ho2
   | false => rw [hb] at q; exact ⟨P2, q, ho2⟩
  | ret vs => exact ⟨P2, q, ho2⟩
 ·rintro x H' ⟨P', hj, ho⟩
  exact he x P' hj H' ho
section
variable {σ : Type} {st : σ → Int → List HV} {J : Nat → σ → List HP → Prop} {n : Nat}
instance vi_nR : V1 H0 P (ret (.norm vs)) (SFor st J n Q) (∃ x', vs = st x' (wr ((n : Int) + 1)) ∧ J (n + 1) x' P) := ⟨fun q => .ret q⟩
instance vi_rR [h : V H0 P (ret (.ret vs)) Q R] : V1 H0 P (ret (.ret vs)) (SFor st J n Q) R := ⟨fun q H hH => wp_ret ((h.w q).retI H hH)⟩
end
end
class FndR (P : List HP) (s : Sl) (τ : outParam (Option (Nat × Option Nat))) (γ : outParam Type) (f : outParam (γ → List HV)) (sz : outParam Nat) (xs : outParam (List γ)) (F : outParam (List HP)) : Prop where
 p : P.Perm (own (rRt τ f sz) s xs :: F)
instance (priority := 2000) fndr_hit {τ : Option (Nat × Option Nat)} {γ : Type} {f : γ → List HV} {sz : Nat} {s : Sl} {xs : List γ} {F : List HP} : FndR (own (rRt τ f sz) s xs :: F) s τ γ f sz xs F := ⟨.refl _⟩
instance fndr_miss {τ : Option (Nat × Option Nat)} {γ : Type} {f : γ → List HV} {sz : Nat} {s : Sl} {xs : List γ} {A : HP} {P F : List HP} [h : FndR P s τ γ f sz xs F] : FndR (A :: P) s τ γ f sz xs (A :: F) := ⟨(h.p.cons A).trans (.swap _ _ _)⟩
theorem putN_one {cs : List HV} {o : Nat} {v : HV} (h : o < cs.length) : putN cs o [v] = cs.set o v := by
 unfold putN
 rw [List.set_eq_take_append_cons_drop, if_pos h]
 simp
theorem putN_mid {A B C vs : List HV} {k : Nat} (h : k + vs.length ≤ B.length) : putN (A ++ B ++ C) (A.length + k) vs = A ++ putN B k vs ++ C := by
 unfold putN
 have e1 : (A ++ B ++ C).take (A.length + k) = A ++ B.take k := by
  rw [List.append_assoc, List.take_length_add_append, List.take_append_of_le_length (by omega)]
 have e2 : (A ++ B ++ C).drop (A.length + k + vs.length) = B.drop (k + vs.length) ++ C := by
  rw [List.append_assoc, Nat.add_assoc, List.drop_length_add_append, List.drop_append_of_le_length h]
 rw [e1, e2]; simp [List.append_assoc]
section
variable {γ : Type} {f : γ → List HV} {sz : Nat}
theorem flat_len {xs : List γ} (h : ∀ x ∈ xs, (f x).length = sz) : ((xs.map f).flatten).length = xs.length * sz := by
 have := flatten_length (ls := xs.map f) (sz := sz) (fun l hl => by obtain ⟨x, hx, rfl⟩ := List.mem_map.1 hl; exact h x hx)
 simpa using this
theorem flat_at {xs : List γ} {i : Nat} {x : γ} (hi : xs[i]? = some x) : (xs.map f).flatten = ((xs.take i).map f).flatten ++ f x ++ ((xs.drop (i + 1)).map f).flatten := by
 obtain ⟨h1, h2⟩ := List.getElem?_eq_some_iff.1 hi
 conv => lhs; rw [← List.take_append_drop i xs, List.drop_eq_getElem_cons h1, h2]
 simp
theorem flat_set {xs : List γ} {i : Nat} {x : γ} (hi : i < xs.length) : ((xs.set i x).map f).flatten = ((xs.take i).map f).flatten ++ f x ++ ((xs.drop (i + 1)).map f).flatten := by
 rw [List.set_eq_take_append_cons_drop, if_pos hi]; simp
end
section
variable {H0 H : Heap} {F : List HP} {τ : Option (Nat × Option Nat)} {b : Nat} {cs : List HV}
theorem Ho.rCt (h : Ho H0 H (own (HQ.rCt τ) b cs :: F)) : H.get b = .cells cs false := by
 obtain ⟨k, m, ⟨a, r, h1, rfl, ⟨t, _, rfl⟩, h4⟩, h2⟩ := h
 obtain ⟨g1, g2, g3, _⟩ := h2 b (.cells cs false, t) (by unfold Pc.un Pc.one; rw [if_pos rfl])
 exact g3
theorem Ho.rCt_ty {q : Nat × Option Nat} (h : Ho H0 H (own (HQ.rCt (some q)) b cs :: F)) : H.ty b = some q := by
 obtain ⟨k, m, ⟨a, r, h1, rfl, ⟨t, ht, rfl⟩, h4⟩, h2⟩ := h
 obtain ⟨_, _, _, g4⟩ := h2 b (.cells cs false, t) (by unfold Pc.un Pc.one; rw [if_pos rfl])
 exact g4 q (ht q rfl)
theorem Ho.rCt_set (h : Ho H0 H (own (HQ.rCt τ) b cs :: F)) (cs' : List HV) : Ho H0 (H.set b (.cells cs' false)) (own (HQ.rCt τ) b cs' :: F) := by
 obtain ⟨k, m, ⟨a, r, h1, rfl, ⟨t, ht, rfl⟩, h4⟩, h2⟩ := h
 exact (Ho.upd (A := fun h => h = Pc.one b (.cells cs false, t)) ⟨k, _, ⟨_, r, h1, rfl, rfl, h4⟩, h2⟩ (fun _ e => e) _ ⟨t, ht, rfl⟩)
theorem Ho.frg (h : Ho H0 H (own (HQ.rCt τ) b cs :: F)) : Ho H0 H (own (HQ.rCt none) b cs :: F) := by
 obtain ⟨k, m, ⟨a, r, h1, rfl, ⟨t, ht, rfl⟩, h4⟩, h2⟩ := h
 exact ⟨k, _, ⟨_, r, h1, rfl, ⟨t, by simp, rfl⟩, h4⟩, h2⟩
end
section
variable {H0 H : Heap} {P F : List HP} {τ : Option (Nat × Option Nat)} {γ : Type} {f : γ → List HV} {sz : Nat} {s : Sl} {xs : List γ}
structure RRf (f : γ → List HV) (sz : Nat) (s : Sl) (xs : List γ) : Prop where
 szs : ∀ x ∈ xs, (f x).length = sz
 pos : 0 < sz
 len : s.len = xs.length
 cap : s.len ≤ s.cap
 lt : s.cap ≤ 9223372036854775807
theorem Ho.rRf (h : Ho H0 H (own (rRt τ f sz) s xs :: F)) : RRf f sz s xs := by
 obtain ⟨_, _, ⟨a, _, _, _, h3, _⟩, _⟩ := h
 obtain ⟨q1, q2, q3, q4, q5, _⟩ := h3
 exact ⟨q1, q2, q3, q4, q5⟩
theorem Ho.rRb (h : Ho H0 H (own (rRt τ f sz) s xs :: F)) : (s = ⟨none, 0, 0, none⟩ ∧ xs = []) ∨ ∃ b ext, s.p = some (b, 0) ∧ (s.opn = none ∨ s.opn = some sz) ∧ s.cap * sz = ((xs.map f).flatten ++ ext).length ∧ Ho H0 H (own (HQ.rCt τ) b ((xs.map f).flatten ++ ext) :: F) := by
 obtain ⟨k, m, ⟨a, r, h1, e, h3, h4⟩, h2⟩ := h
 obtain ⟨_, _, q3, _, _, q⟩ := h3
 rcases q with ⟨rfl, _⟩ | ⟨b, ext, g1, g2, g3, g4⟩
 ·refine .inl ⟨rfl, ?_⟩
  cases xs with
  | nil => rfl
  | cons => simp at q3
 ·exact .inr ⟨b, ext, g1, g2, g3, k, m, ⟨a, r, h1, e, g4, h4⟩, h2⟩
theorem Ho.rRo {b : Nat} {ext : List HV} (q : RRf f sz s xs) (g1 : s.p = some (b, 0)) (g2 : s.opn = none ∨ s.opn = some sz) (g3 : s.cap * sz = ((xs.map f).flatten ++ ext).length) (h : Ho H0 H (own (HQ.rCt τ) b ((xs.map f).flatten ++ ext) :: F)) : Ho H0 H (own (rRt τ f sz) s xs :: F) := by
 obtain ⟨k, m, ⟨a, r, h1, e, h3, h4⟩, h2⟩ := h
 exact ⟨k, m, ⟨a, r, h1, e, ⟨q.szs, q.pos, q.len, q.cap, q.lt, .inr ⟨b, ext, g1, g2, g3, h3⟩⟩, h4⟩, h2⟩
theorem Ent.nil (f : γ → List HV) {sz : Nat} (hsz : 0 < sz) : Ent P (own (rRt τ f sz) ⟨none, 0, 0, none⟩ [] :: P) := fun m e =>
 ⟨m, ⟨Pc.no, m, Pc.dj_comm Pc.dj_no, Pc.no_un.symm, ⟨by simp, hsz, rfl, Nat.le_refl _, by simp, .inl ⟨rfl, rfl⟩⟩, e⟩, fun _ _ q => q⟩
theorem Ent.row {b : Nat} {cs : List HV} {o : Option Nat} [i : Fnd P rC b cs F] (hc : cs = (xs.map f).flatten) (h1 : ∀ x ∈ xs, (f x).length = sz) (hsz : 0 < sz) (hl : xs.length ≤ 9223372036854775807) (ho : o = none ∨ o = some sz) :
  Ent P (own (rR f sz) ⟨some (b, 0), xs.length, xs.length, o⟩ xs :: F) :=
 (Ent.perm i.p).trans (Ent.head (fun h ⟨t, e⟩ => by
  refine ⟨h1, hsz, rfl, Nat.le_refl _, hl, .inr ⟨b, [], rfl, ho, ?_, t, by simp, ?_⟩⟩
  ·simp only [List.append_nil]; exact (flat_len h1).symm
  ·rw [e, hc, List.append_nil]) Ent.refl)
theorem Ent.rowT {b : Nat} {cs : List HV} {t : Nat × Option Nat} {o : Option Nat} [i : Fnd P rT b (t, cs) F] (hc : cs = (xs.map f).flatten) (h1 : ∀ x ∈ xs, (f x).length = sz) (hsz : 0 < sz) (hl : xs.length ≤ 9223372036854775807) (ho : o = none ∨ o = some sz) :
  Ent P (own (rRt (some t) f sz) ⟨some (b, 0), xs.length, xs.length, o⟩ xs :: F) :=
 (Ent.perm i.p).trans (Ent.head (fun h e => by
  have e : h = Pc.one b (.cells cs false, some t) := e
  refine ⟨h1, hsz, rfl, Nat.le_refl _, hl, .inr ⟨b, [], rfl, ho, ?_, some t, fun _ q => q, ?_⟩⟩
  ·simp only [List.append_nil]; exact (flat_len h1).symm
  ·rw [e, hc, List.append_nil]) Ent.refl)
variable {α : Type} {m : M α} {Q : α → List HP → Prop}
theorem Wp.row [i : FndR P s τ γ f sz xs F] (h : RRf f sz s xs → Wp H0 P m Q) : Wp H0 P m Q := Wp.fact (fun _ hH => (hH.perm i.p).rRf) h
theorem Wp.nil (f : γ → List HV) {sz : Nat} (hsz : 0 < sz) (h : Wp H0 (own (rR f sz) ⟨none, 0, 0, none⟩ [] :: P) m Q) : Wp H0 P m Q := Wp.ent (Ent.nil f hsz) h
theorem Wp.nilT (τ : Option (Nat × Option Nat)) (f : γ → List HV) {sz : Nat} (hsz : 0 < sz) (h : Wp H0 (own (rRt τ f sz) ⟨none, 0, 0, none⟩ [] :: P) m Q) : Wp H0 P m Q := Wp.ent (Ent.nil f hsz) h
/-! elements -/
theorem Ho.rR_at {i : Nat} {x : γ} (h : Ho H0 H (own (rRt τ f sz) s xs :: F)) (hi : xs[i]? = some x) : ∃ b cs, s.p = some (b, 0) ∧ H.get b = .cells cs false ∧ i * sz + sz ≤ cs.length ∧ (cs.drop (i * sz)).take sz = f x ∧ i < s.len ∧ (f x).length = sz := by
 have q := h.rRf
 have hlt := (List.getElem?_eq_some_iff.1 hi).1
 have hx := q.szs x (List.mem_of_getElem? hi)
 rcases h.rRb with ⟨_, rfl⟩ | ⟨b, ext, g1, _, g3, g4⟩
 ·simp at hi
 ·have ht : (((xs.take i).map f).flatten).length = i * sz := by
   rw [flat_len (fun x hx => q.szs x (List.mem_of_mem_take hx)), List.length_take, Nat.min_eq_left (by omega)]
  have e := flat_at (f := f) hi
  refine ⟨b, _, g1, g4.rCt, ?_, ?_, by rw [q.len]; exact hlt, hx⟩
  ·rw [e]; simp only [List.length_append, ht, hx]; omega
  ·rw [e, ← ht, List.append_assoc, List.append_assoc, List.drop_left, ← hx, List.take_left]
section
variable {i : Int} {j : Nat} {x : γ}
theorem wp_ixb {β : Type} {Q : β → Heap → Prop} {g : Nat → Nat → M β} {b : Nat} (hj : i = (j : Int)) (hl : j < s.len) (hb : s.p = some (b, 0)) (h : wp (g b (j * sz)) Q H) : wp (HQ.ix s i sz g) Q H := by
 subst hj
 unfold HQ.ix
 refine wp_gdD (by omega) (wp_gdD (by omega) ?_)
 rw [hb, mP_eq']
 have : (0 : Nat) + ((j : Int)).toNat * sz = j * sz := by simp
 rw [this]; exact h
theorem Wp.ixN {g : Nat → Nat → List HV → M α} [fd : FndR P s τ γ f sz xs F] (hj : i = (j : Int)) (hi : xs[j]? = some x) (h : ∀ b o, Wp H0 P (g b o (f x)) Q) : Wp H0 P (HQ.ix s i sz fun b o => HQ.ldN b o sz fun cs => g b o cs) Q := fun H hH => by
 obtain ⟨b, cs, h1, h2, h3, h4, h5, _⟩ := (hH.perm fd.p).rR_at hi
 exact wp_ixb hj h5 h1 (wp_ldGN h2 h3 (by rw [h4]; exact h _ _ H hH))
theorem Wp.ixC {k : Nat} {v : HV} {g : Nat → Nat → HV → M α} [fd : FndR P s τ γ f sz xs F] (hj : i = (j : Int)) (hi : xs[j]? = some x) (hv : (f x)[k]? = some v) (h : ∀ b o, Wp H0 P (g b o v) Q) : Wp H0 P (HQ.ix s i sz fun b o => HQ.ldC b (o + k) fun c => g b o c) Q := fun H hH => by
 obtain ⟨b, cs, h1, h2, h3, h4, h5, h6⟩ := (hH.perm fd.p).rR_at hi
 refine wp_ixb hj h5 h1 (wp_ldG h2 ?_ (h _ _ H hH))
 have hk := (List.getElem?_eq_some_iff.1 hv).1
 rw [← h4, List.getElem?_take, if_pos (by omega), List.getElem?_drop] at hv
 exact hv
theorem Wp.ixC0 {v : HV} {g : Nat → Nat → HV → M α} [fd : FndR P s τ γ f sz xs F] (hj : i = (j : Int)) (hi : xs[j]? = some x) (hv : (f x)[0]? = some v) (h : ∀ b o, Wp H0 P (g b o v) Q) : Wp H0 P (HQ.ix s i sz fun b o => HQ.ldC b o fun c => g b o c) Q :=
 Wp.ixC (k := 0) hj hi hv h
theorem Wp.ixNk {k n : Nat} {vs : List HV} {g : Nat → Nat → List HV → M α} [fd : FndR P s τ γ f sz xs F] (hj : i = (j : Int)) (hi : xs[j]? = some x) (hv : ((f x).drop k).take n = vs) (hn : k + n ≤ sz) (h : ∀ b o, Wp H0 P (g b o vs) Q) : Wp H0 P (HQ.ix s i sz fun b o => HQ.ldN b (o + k) n fun c => g b o c) Q := fun H hH => by
 obtain ⟨b, cs, h1, h2, h3, h4, h5, h6⟩ := (hH.perm fd.p).rR_at hi
 refine wp_ixb hj h5 h1 (wp_ldGN h2 (by omega) ?_)
 rw [← h4, List.drop_take, List.drop_drop, List.take_take, Nat.min_eq_left (by omega)] at hv
 rw [hv]
 exact h _ _ H hH
theorem Wp.ixN0 {n : Nat} {vs : List HV} {g : Nat → Nat → List HV → M α} [fd : FndR P s τ γ f sz xs F] (hj : i = (j : Int)) (hi : xs[j]? = some x) (hv : (f x).take n = vs) (hn : n ≤ sz) (h : ∀ b o, Wp H0 P (g b o vs) Q) : Wp H0 P (HQ.ix s i sz fun b o => HQ.ldN b o n fun c => g b o c) Q :=
 Wp.ixNk (k := 0) hj hi (by simpa using hv) (by omega) h
theorem Ho.rR_put {x' : γ} {k : Nat} {vs : List HV} (h : Ho H0 H (own (rRt τ f sz) s xs :: F)) (hi : xs[j]? = some x) (hk : k + vs.length ≤ sz) (hx : f x' = putN (f x) k vs) :
  ∃ b cs, s.p = some (b, 0) ∧ j < s.len ∧ H.get b = .cells cs false ∧ j * sz + sz ≤ cs.length ∧ Ho H0 (H.set b (.cells (putN cs (j * sz + k) vs) false)) (own (rRt τ f sz) s (xs.set j x') :: F) := by
 have q := h.rRf
 have hlt := (List.getElem?_eq_some_iff.1 hi).1
 have hxl := q.szs x (List.mem_of_getElem? hi)
 rcases h.rRb with ⟨_, rfl⟩ | ⟨b, ext, g1, g2, g3, g4⟩
 ·simp at hi
 ·have ht : (((xs.take j).map f).flatten).length = j * sz := by
   rw [flat_len (fun x hx => q.szs x (List.mem_of_mem_take hx)), List.length_take, Nat.min_eq_left (by omega)]
  have e := flat_at (f := f) hi
  have e2 : putN ((xs.map f).flatten ++ ext) (j * sz + k) vs = ((xs.set j x').map f).flatten ++ ext := by
   rw [e, flat_set hlt, ← ht, List.append_assoc _ _ ext, putN_mid (by omega), hx]; simp only [List.append_assoc]
  have hx' : (f x').length = sz := by
   rw [hx]; unfold putN
   simp only [List.length_append, List.length_take, List.length_drop]; omega
  refine ⟨b, _, g1, by rw [q.len]; exact hlt, g4.rCt, ?_, ?_⟩
  ·rw [e]; simp only [List.length_append, ht, hxl]; omega
  ·rw [e2]
   refine Ho.rRo (ext := ext) ⟨fun y hy => ?_, q.pos, by simpa using q.len, q.cap, q.lt⟩ g1 g2 ?_ (g4.rCt_set _)
   ·rcases List.mem_or_eq_of_mem_set hy with hy | rfl
    ·exact q.szs y hy
    ·exact hx'
   ·rw [g3]
    have h1 := flat_len q.szs
    have h2 := flat_len (f := f) (sz := sz) (xs := xs.set j x') (fun y hy => by
     rcases List.mem_or_eq_of_mem_set hy with hy | rfl
     ·exact q.szs y hy
     ·exact hx')
    simp only [List.length_append, h1, h2, List.length_set]
theorem Wp.ixSt {x' : γ} {k : Nat} {v : HV} [fd : FndR P s τ γ f sz xs F] (hj : i = (j : Int)) (hi : xs[j]? = some x) (hk : k < sz) (hv : v.sc = true) (hx : f x' = (f x).set k v) (h : Wp H0 (own (rRt τ f sz) s (xs.set j x') :: F) m Q) : Wp H0 P (HQ.ix s i sz fun b o => HQ.stC b (o + k) v m) Q := fun H hH => by
 have hxl := (hH.perm fd.p).rRf.szs x (List.mem_of_getElem? hi)
 obtain ⟨b, cs, h1, h2, h3, h4, h5⟩ := (hH.perm fd.p).rR_put (k := k) (vs := [v]) (x' := x') hi (by simp; omega) (by rw [hx, putN_one (by omega)])
 refine wp_ixb hj h2 h1 (wp_stC h3 (by omega) hv ?_)
 rw [putN_one (by omega)] at h5
 exact h _ h5
theorem Wp.ixSt0 {x' : γ} {v : HV} [fd : FndR P s τ γ f sz xs F] (hj : i = (j : Int)) (hi : xs[j]? = some x) (hk : 0 < sz) (hv : v.sc = true) (hx : f x' = (f x).set 0 v) (h : Wp H0 (own (rRt τ f sz) s (xs.set j x') :: F) m Q) : Wp H0 P (HQ.ix s i sz fun b o => HQ.stC b o v m) Q :=
 Wp.ixSt (k := 0) hj hi hk hv hx h
theorem Wp.ixStNk {x' : γ} {k : Nat} {vs : List HV} [fd : FndR P s τ γ f sz xs F] (hj : i = (j : Int)) (hi : xs[j]? = some x) (hk : k + vs.length ≤ sz) (hx : f x' = putN (f x) k vs) (h : Wp H0 (own (rRt τ f sz) s (xs.set j x') :: F) m Q) : Wp H0 P (HQ.ix s i sz fun b o => HQ.stN b (o + k) vs m) Q := fun H hH => by
 obtain ⟨b, cs, h1, h2, h3, h4, h5⟩ := (hH.perm fd.p).rR_put (k := k) (vs := vs) (x' := x') hi hk hx
 refine wp_ixb hj h2 h1 (wp_of (m' := m) (H' := H.set b (.cells (putN cs (j * sz + k) vs) false)) (fun n => ?_) (h _ h5))
 unfold HQ.stN; simp only [h3]; rw [show decide (j * sz + k + vs.length ≤ cs.length) = true from by simp; omega]; rfl
theorem Wp.ixStN {x' : γ} {vs : List HV} [fd : FndR P s τ γ f sz xs F] (hj : i = (j : Int)) (hi : xs[j]? = some x) (hk : vs.length ≤ sz) (hx : f x' = putN (f x) 0 vs) (h : Wp H0 (own (rRt τ f sz) s (xs.set j x') :: F) m Q) : Wp H0 P (HQ.ix s i sz fun b o => HQ.stN b o vs m) Q :=
 Wp.ixStNk (k := 0) hj hi (by omega) hx h
end
theorem Wp.apd {x : γ} {l : List HV} {by_ : Nat} {g : Sl → M α} [fd : FndR P s τ γ f sz xs F] (hl : l = f x) (hx : (f x).length = sz) (h1 : (xs.length + 1) * by_ ≤ room) (h2 : xs.length + 1 ≤ room)
  (h : ∀ s', Wp H0 (own (rR f sz) s' (xs ++ [x]) :: F) (g s') Q) : Wp H0 P (HQ.apd s sz by_ 1 l g) Q := fun H hH => by
 subst hl
 have hH := hH.perm fd.p
 have q := hH.rRf
 have hlen := q.len
 have hcap := q.cap
 have hroom : room = 140737488355328 := rfl
 have hszs : ∀ y ∈ xs ++ [x], (f y).length = sz := fun y hy => by
  rcases List.mem_append.1 hy with hy | hy
  ·exact q.szs y hy
  ·simp at hy; subst hy; exact hx
 have hfl : ((xs ++ [x]).map f).flatten = (xs.map f).flatten ++ f x := by simp
 have hf0 := flat_len q.szs
 have hmul : (xs.length + 1) * sz = xs.length * sz + sz := Nat.succ_mul _ _
 unfold HQ.apd
 have hg : (decide ((s.len + 1) * by_ ≤ room) && decide ((f x).length = 1 * sz) && decide (0 < sz) && decide (s.len + 1 ≤ room)) = true := by
  rw [hlen]; simp [hx, q.pos, h1, h2]
 rw [hg]
 -- behind a new block
 have fin : ∀ {H1 : Heap} {P1 : List HP}, Ho H0 H1 P1 → (∀ H2, Ho H0 H2 (P1) → Ho H0 H2 F) → ∀ cs, cs = ((xs ++ [x]).map f).flatten → wp (HQ.nw cs fun b' => g { p := some (b', 0), len := s.len + 1, cap := s.len + 1, opn := some sz }) (fun a H' => ∃ P', Q a P' ∧ Ho H0 H' P') H1 := by
  intro H1 P1 ho hsub cs hcs
  refine wp_nw (h _ _ ?_)
  have := (hsub _ ho).new (A := own (HQ.rCt none) H1.n cs) none (.cells cs false) ⟨none, by simp, rfl⟩
  rw [hcs] at this ⊢
  refine Ho.rRo (ext := []) ⟨hszs, q.pos, by simp [hlen], Nat.le_refl _, by simp only [hlen]; omega⟩ rfl (.inr rfl) ?_ (by rw [List.append_nil]; exact this)
  rw [List.append_nil, flat_len hszs]; simp [hlen]
 rcases hH.rRb with ⟨rfl, rfl⟩ | ⟨b, ext, g1, g2, g3, g4⟩
 ·refine wp_of (H' := H) (m' := HQ.nw (f x) fun b' => g { p := some (b', 0), len := 1, cap := 1, opn := some sz }) (fun n => rfl) ?_
  exact fin hH (fun _ h => h.tail) (f x) (by simp)
 ·have hget := g4.rCt
  rw [List.length_append, hf0] at g3
  by_cases hc : s.len + 1 ≤ s.cap
  ·-- there is room
   have hmul2 : (s.len + 1) * sz ≤ s.cap * sz := Nat.mul_le_mul_right _ hc
   have hext : sz ≤ ext.length := by rw [hlen, hmul] at hmul2; omega
   have e : putN ((xs.map f).flatten ++ ext) (0 + s.len * sz) (f x) = ((xs ++ [x]).map f).flatten ++ ext.drop sz := by
    have := putN_mid (A := (xs.map f).flatten) (B := ext) (C := []) (vs := f x) (k := 0) (by omega)
    rw [List.append_nil, List.append_nil] at this
    rw [Nat.zero_add, hlen, ← hf0]
    rw [Nat.add_zero] at this
    rw [this, hfl]; unfold putN; rw [List.take_zero, List.nil_append, Nat.zero_add, hx, List.append_assoc]
   refine wp_of (m' := g { s with len := s.len + 1 }) (H' := H.set b (.cells (((xs ++ [x]).map f).flatten ++ ext.drop sz) false)) (fun n => ?_) (h _ _ ?_)
   ·show (if s.len + 1 ≤ s.cap then _ else _ : Option (α × Heap)) = _
    rw [if_pos hc, g1]
    simp only [HQ.stN, hget]
    rw [show decide (0 + s.len * sz + (f x).length ≤ ((xs.map f).flatten ++ ext).length) = true from by simp only [List.length_append, hf0, hx, hlen, decide_eq_true_eq]; omega]
    rw [e]; rfl
   ·refine Ho.rRo (ext := ext.drop sz) ⟨hszs, q.pos, by simp [hlen], hc, q.lt⟩ g1 g2 ?_ ((g4.rCt_set _).frg)
    rw [List.length_append, flat_len hszs, List.length_append, List.length_drop]
    simp only [List.length_cons, List.length_nil, Nat.zero_add]
    omega
  ·have hce : s.cap = xs.length := by omega
   rw [hce] at g3
   have hext : ext = [] := List.eq_nil_of_length_eq_zero (by omega)
   subst hext
   rw [List.append_nil] at hget g4
   have hold : ((xs.map f).flatten.drop 0).take (s.len * sz) = (xs.map f).flatten := by rw [List.drop_zero, hlen, ← hf0, List.take_length]
   have hgx : decide (0 + s.len * sz ≤ (xs.map f).flatten.length) = true := by rw [hf0, hlen]; simp
   rcases g2 with g2 | g2
   ·refine wp_of (H' := H) (m' := HQ.nw ((xs.map f).flatten ++ f x) fun b' => g { p := some (b', 0), len := s.len + 1, cap := s.len + 1, opn := some sz }) (fun n => ?_) (fin hH (fun _ h => h.tail) _ hfl.symm)
    show (if s.len + 1 ≤ s.cap then _ else _ : Option (α × Heap)) = _
    rw [if_neg hc, g1]
    simp only [hget, HQ.gxN, hgx, hold, g2]
    rfl
   ·have hdead : Ho H0 (H.set b .dead) F := (g4.one (B := fun h => ∃ t, h = Pc.one b (.dead, t)) (fun _ ⟨t, _, e⟩ => ⟨t, e⟩) .dead (fun t => ⟨t, rfl⟩)).tail
    refine wp_of (H' := H.set b .dead) (m' := HQ.nw ((xs.map f).flatten ++ f x) fun b' => g { p := some (b', 0), len := s.len + 1, cap := s.len + 1, opn := some sz }) (fun n => ?_) (fin hdead (fun _ h => h) _ hfl.symm)
    show (if s.len + 1 ≤ s.cap then _ else _ : Option (α × Heap)) = _
    rw [if_neg hc, g1]
    simp only [hget, HQ.gxN, hgx, hold, g2]
    rw [show decide ((xs.map f).flatten.length = s.len * sz) = true from by simp [hf0, hlen]]
    simp only [decide_true, Bool.and_self, Bool.not_false, gd]
end
theorem Ent.weak {P P' : List HP} {A : HP} (h : Ent P P') : Ent (A :: P) P' := Ent.trans (fun m ⟨a, b, d, e, _, h2⟩ => ⟨b, h2, fun x c q => by
 subst e
 rcases d x with g | g
 ·unfold Pc.un; rw [g]; exact q
 ·rw [g] at q; cases q⟩) h
class FndA (P : List HP) (A : HP) (F : outParam (List HP)) : Prop where
 p : P.Perm (A :: F)
instance (priority := 2000) fnda_hit {A : HP} {F : List HP} : FndA (A :: F) A F := ⟨.refl _⟩
instance fnda_miss {A B : HP} {P F : List HP} [h : FndA P A F] : FndA (B :: P) A (B :: F) := ⟨(h.p.cons B).trans (.swap _ _ _)⟩
theorem Ent.pick {A : HP} {P P' F : List HP} [i : FndA P A F] (h : Ent F P') : Ent P (A :: P') := (Ent.perm i.p).trans (Ent.head (fun _ => id) h)
theorem Ent.back {P P' F : List HP} {κ γ : Type} (r : κ → γ → HP) (k : κ) {x : γ} [f : Fnd P r k x F] (h : Ent P' (own r k x :: F)) : Ent P' P := h.trans (Ent.perm f.p.symm)
theorem Wp.forL {H0 : Heap} {P : List HP} {Q : Leaf → List HP → Prop} {K : List HV → M Leaf} {id : Nat} {σ : Type} (n : Nat) {len : Int} (hn : n ≤ 9223372036854775807) (hlen : len = (n : Int)) (st : σ → Int → List HV) {f : List HV → M Leaf} {B : σ → Int → M Leaf} {out : σ → List HV}
  (hf : ∀ x i, f (st x i) = _root_.cond (decide (i < len)) (B x i) (HQ.ret (.exit id (out x)))) (p : Nat → σ → Prop) (L : Nat → σ → List HP) (x0 : σ) {vs : List HV} (hv : vs = st x0 0) (h0 : p 0 x0) (h1 : Ent P (L 0 x0))
  (hb : ∀ i x, i < n → p i x → Wp H0 (L i x) (B x i) (SFor st (fun i x P' => p i x ∧ Ent P' (L i x)) i (SBlk H0 id K Q))) (he : ∀ x, p n x → Wp H0 (L n x) (K (out x)) Q) : Wp H0 P (HQ.blk id (loopD f vs) K) Q :=
 Wp.for n hn hlen st hf (fun i x P' => p i x ∧ Ent P' (L i x)) x0 hv ⟨h0, h1⟩ (fun i x _ hi hj => Wp.ent hj.2 (hb i x hi hj.1)) (fun x _ hj => Wp.ent hj.2 (he x hj.1))
theorem Wp.gx {α : Type} {H0 : Heap} {P : List HP} {Q : α → List HP → Prop} {cs : List HV} {o : Nat} {v : HV} {f : HV → M α} (hv : cs[o]? = some v) (h : Wp H0 P (f v) Q) : Wp H0 P (HQ.gx cs o f) Q := .red (wp_gxG hv) h
theorem Wp.gxN {α : Type} {H0 : Heap} {P : List HP} {Q : α → List HP → Prop} {cs vs : List HV} {o n : Nat} {f : List HV → M α} (hn : o + n ≤ cs.length) (hv : (cs.drop o).take n = vs) (h : Wp H0 P (f vs) Q) : Wp H0 P (HQ.gxN cs o n f) Q := by
 subst hv; unfold HQ.gxN; exact .red (wp_gdD hn) h
section
variable {H0 : Heap} {P F : List HP} {τ : Option (Nat × Option Nat)} {γ : Type} {f : γ → List HV} {sz : Nat} {s : Sl} {xs : List γ}
theorem rRt.forget {h : Pc} (q : rRt τ f sz s xs h) : rRt none f sz s xs h := by
 obtain ⟨q1, q2, q3, q4, q5, q6⟩ := q
 refine ⟨q1, q2, q3, q4, q5, ?_⟩
 rcases q6 with q6 | ⟨b, ext, g1, g2, g3, t, _, g4⟩
 ·exact .inl q6
 ·exact .inr ⟨b, ext, g1, g2, g3, t, by simp, g4⟩
theorem Ent.forget : Ent (own (rRt τ f sz) s xs :: F) (own (rR f sz) s xs :: F) := Ent.head (fun _ => rRt.forget) .refl
theorem Wp.rdS {α : Type} {Q : α → List HP → Prop} {g : List HV → M α} [fd : FndR P s τ γ f sz xs F] (h : Wp H0 P (g ((xs.map f).flatten)) Q) : Wp H0 P (HQ.rdS s sz g) Q := fun H hH => by
 have h1 := hH.perm fd.p
 have q := h1.rRf
 have hlen := q.len
 unfold HQ.rdS
 rcases h1.rRb with ⟨rfl, rfl⟩ | ⟨b, ext, g1, _, g3, g4⟩
 ·exact wp_gdD rfl (h H hH)
 ·rw [g1]
  have hf := flat_len q.szs
  refine wp_ldGN g4.rCt ?_ ?_
  ·rw [hlen, List.length_append, hf]; omega
  ·rw [hlen, List.drop_zero, ← hf, List.take_left]; exact h H hH
end
end Go.Proofs.YtbphjihgbenkdaaGreat.HQ
