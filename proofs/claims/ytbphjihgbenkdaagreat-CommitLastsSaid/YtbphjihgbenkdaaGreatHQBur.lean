/- Lemmas for the row. Conditions: none. -/
import Derived.Test.YtbphjihgbenkdaaGreatHQBuj
namespace Go.Proofs.YtbphjihgbenkdaaGreat.HQ
set_option linter.unusedVariables false
set_option linter.unusedSectionVars false
set_option linter.unusedSimpArgs false
open Go
def rAll {κ γ : Type} (r : κ → γ → HP) (_ : Nat) (xs : List (κ × γ)) : HP := Al (alls r xs)
section
variable {α κ γ : Type} {H0 : Heap} {P F : List HP} {r : κ → γ → HP} {xs : List (κ × γ)} {i u : Nat} {k : κ} {x x' : γ} {m : M α} {Q : α → List HP → Prop}
theorem Ent.allF : Ent (alls r xs ++ F) (own (rAll r) u xs :: F) := Ent.fold' fun _ h => h
theorem Ent.allO : Ent (own (rAll r) u xs :: F) (alls r xs ++ F) := Ent.app fun _ h => h
theorem Ent.out1 [f : Fnd P (rAll r) u xs F] (h : xs[i]? = some (k, x)) : Ent P (own r k x :: own (rAll r) u (xs.eraseIdx i) :: F) :=
 (Ent.perm f.p).trans (Ent.allO.trans ((Ent.out h).trans (Ent.head (fun _ q => q) Ent.allF)))
theorem Ent.inn1 {P' : List HP} (h : xs[i]? = some (k, x)) (e : Ent P (own r k x' :: own (rAll r) u (xs.eraseIdx i) :: P')) : Ent P (own (rAll r) u (xs.set i (k, x')) :: P') :=
 e.trans ((Ent.head (fun _ q => q) Ent.allO).trans ((Ent.inn h).trans Ent.allF))
theorem Ent.back1 {P' : List HP} (h : xs[i]? = some (k, x)) (e : Ent P (own r k x :: own (rAll r) u (xs.eraseIdx i) :: P')) : Ent P (own (rAll r) u xs :: P') :=
 e.trans ((Ent.head (fun _ q => q) Ent.allO).trans ((Ent.back' h).trans Ent.allF))
theorem Ent.snoc1 {P' : List HP} (e : Ent P (own r k x :: own (rAll r) u xs :: P')) : Ent P (own (rAll r) u (xs ++ [(k, x)]) :: P') :=
 e.trans ((Ent.head (fun _ q => q) Ent.allO).trans (alls_snoc.trans Ent.allF))
theorem Ent.all0 : Ent P (own (rAll r) u ([] : List (κ × γ)) :: P) := Ent.allF (xs := []) (F := P)
end
def rCM (c : Nat) (y : Int × Nat × Int) : HP := rC c (cmC y.1 y.2.1 y.2.2)
structure CSt where
 b : Nat
 f : Int
 tk : Tk
 v : Vw
 wi : Wi
 z : Nat
 D : Dk
abbrev wpP (b l p : Nat) (W : Wd) (s : CSt) (F : List HP) : List HP :=
 own rWd b { W with b := s.b, f := s.f } :: own rC W.t (tkC s.tk) :: own rView W.v s.v :: own rC W.w (wiC s.wi) :: own rC W.a (vaC ⟨p, l, 1⟩) :: own rC l (lgC ⟨p, 1, s.z⟩) :: own rDisk p s.D :: F
def stepS (T : Tri) (A : Ac) (i ph : Int) (s : CSt) : Int × Int × CSt :=
 if ph = 0 then
  if s.tk.free i = false then (10, 0, s)
  else if validB s.v T.rd = false then (9, 0, s)
  else (0, if T.df.length = 0 then 3 else 1, { s with tk := s.tk.lock i })
 else if ph = 1 then
  if 0 < s.f then
   if s.tk.sure i = true then (10, 1, { s with f := s.f - 1 }) else (7, 1, { s with f := s.f - 1, tk := s.tk.unlock i })
  else (0, 2, { s with z := s.z + ((redoL (s.b + 1) T.df).length + 7), D := s.D.app 1 (closeL (1 :: redoL (s.b + 1) T.df)) })
 else if ph = 2 then (0, 3, { s with D := s.D.sync })
 else if ph = 3 then (0, 4, { s with b := s.b + 1, tk := (s.tk.unlock i).drop i, v := if validB s.v T.rd = true then landT s.v T else s.v, wi := s.wi.send (A.o ++ A.l) })
 else (0, ph, s)
structure VwE (v : Vw) : Prop where
 p : VwP v
 t : ∀ (k : Nat) (l : Bs), v.texts[k]? = some l → l = []
structure TE (T : Tri) : Prop where
 ok : TOk vw0 T
theorem TE.cu {T : Tri} (h : TE T) : ∀ (k : Nat) (c : Int), T.cu[k]? = some c → c = 0 := by
 intro k c hc
 have h1 := h.ok.cr k c hc
 have hk : k < 3 := by have := (List.getElem?_eq_some_iff.1 hc).1; rw [h.ok.cu] at this; exact this
 have h2 := h.ok.cn k c (0, 0) [] hc (by match k, hk with | 0, _ => rfl | 1, _ => rfl | 2, _ => rfl) (by match k, hk with | 0, _ => rfl | 1, _ => rfl | 2, _ => rfl)
 simp at h2
 omega
theorem TE.at {T : Tri} {v : Vw} (h : TE T) (hv : VwE v) : TOk v T := by
 refine ⟨h.ok.rk, h.ok.rd, h.ok.dc, h.ok.df, h.ok.cu, h.ok.cr, fun k c x l hc hx hl => ?_, h.ok.fl, h.ok.d6⟩
 have h1 := h.cu k c hc
 have h2 := hv.t k l hl
 have h3 := hv.p.pl k x l hx hl
 subst h1 h2
 simp at h3 ⊢
 omega
theorem VwE.land {v : Vw} {T : Tri} (hv : VwE v) (h : TE T) : VwE (landT v T) := ⟨hv.p.land (h.at hv), hv.t⟩
theorem VwE.new : VwE vw0 := ⟨vw0P, fun k l h => by
 match k, h with
 | 0, h => cases h; rfl
 | 1, h => cases h; rfl
 | 2, h => cases h; rfl⟩
structure CInv (s : CSt) (k m : Nat) : Prop where
 v : VwE s.v
 c : 0 ≤ s.v.clock ∧ s.v.clock ≤ m
 wi : WiOk s.wi (2 * m)
 D : DOk' s.D
 dw : s.D.w.length ≤ 100 + m
 n1 : s.D.n1.length ≤ 100 + 294 * k
 z : s.z ≤ 100 + 294 * k
 b : s.b ≤ m
 f : 0 ≤ s.f ∧ s.f ≤ 9223372036854775807
def wrN (ph : Int) : Nat := if 2 ≤ ph then 1 else 0
theorem WiOk.le {x : Wi} {n m : Nat} (h : WiOk x n) (hn : n ≤ m) : WiOk x m := ⟨by have := h.h0; omega, by have := h.h1; omega, by have := h.h2; omega⟩
theorem WiOk.send {x : Wi} {n : Nat} (h : WiOk x n) (l : List (Int × UInt8)) : WiOk (x.send l) (n + l.length) := by
 unfold Wi.send
 induction l generalizing x n with
 | nil => exact h
 | cons o l ih =>
  have := ih (h.push (k := o.1) (b := [o.2]))
  refine WiOk.le this ?_
  simp; omega
theorem CInv.le {s : CSt} {k k' m m' : Nat} (h : CInv s k m) (hk : k ≤ k') (hm : m ≤ m') : CInv s k' m' :=
 ⟨h.v, ⟨h.c.1, by have := h.c.2; omega⟩, h.wi.le (by omega), h.D, by have := h.dw; omega, by have := h.n1; omega, by have := h.z; omega, by have := h.b; omega, h.f⟩
theorem CInv.step {s : CSt} {k m : Nat} {T : Tri} {A : Ac} {i ph : Int} (h : CInv s k m) (hT : TE T) (hA : A.o.length + A.l.length ≤ 2) (hk : k ≤ 30) (hm : m ≤ 100000) :
  CInv (stepS T A i ph s).2.2 (k + wrN (stepS T A i ph s).2.1 - wrN ph) (m + 1) := by
 unfold stepS
 by_cases c0 : ph = 0
 ·subst c0
  rw [if_pos rfl]
  have e0 : wrN 0 = 0 := rfl
  split
  ·exact h.le (by simp [e0]) (by omega)
  ·split
   ·exact h.le (by simp [e0]) (by omega)
   ·have := h.le (k' := k + wrN (if T.df.length = 0 then 3 else 1) - wrN 0) (m' := m + 1) (by simp [e0]) (by omega)
    exact ⟨this.v, this.c, this.wi, this.D, this.dw, this.n1, this.z, this.b, this.f⟩
 rw [if_neg c0]
 by_cases c1 : ph = 1
 ·subst c1
  rw [if_pos rfl]
  have e0 : wrN 1 = 0 := rfl
  have e2 : wrN 2 = 1 := rfl
  split
  ·next hf =>
   have q := h.le (k' := k + wrN 1 - wrN 1) (m' := m + 1) (by simp [e0]) (by omega)
   have hf2 : 0 ≤ s.f - 1 ∧ s.f - 1 ≤ 9223372036854775807 := by have := h.f; omega
   split
   ·exact ⟨q.v, q.c, q.wi, q.D, q.dw, q.n1, q.z, q.b, hf2⟩
   ·exact ⟨q.v, q.c, q.wi, q.D, q.dw, q.n1, q.z, q.b, hf2⟩
  ·have hb := h.b
   have hrl := redoL_len (n := s.b + 1) hT.ok.df hT.ok.fl (by omega)
   have hcl := closeL_len (1 :: redoL (s.b + 1) T.df)
   have q := h.le (k' := k + 1) (m' := m + 1) (by omega) (by omega)
   have h1 := h.n1
   have h2 := h.dw
   have h3 := h.z
   rw [List.length_cons] at hcl
   have hD : DOk' (s.D.app 1 (closeL (1 :: redoL (s.b + 1) T.df))) := h.D.app (Nat.le_refl 1) (by show (s.D.n1).length + _ ≤ _; omega) (by omega)
   show CInv _ (k + wrN 2 - wrN 1) (m + 1)
   rw [e0, e2]
   refine ⟨q.v, q.c, q.wi, hD, ?_, ?_, ?_, q.b, q.f⟩
   ·show (s.D.w ++ [_]).length ≤ _
    simp; omega
   ·show (s.D.n1 ++ _).length ≤ _
    rw [List.length_append]; omega
   ·show s.z + _ ≤ _
    omega
 rw [if_neg c1]
 by_cases c2 : ph = 2
 ·subst c2
  rw [if_pos rfl]
  have q := h.le (k' := k + wrN 3 - wrN 2) (m' := m + 1) (by simp [wrN]) (by omega)
  have e := h.D.sync_eq
  refine ⟨q.v, q.c, q.wi, h.D.sync, ?_, ?_, q.z, q.b, q.f⟩
  ·show s.D.sync.w.length ≤ _
   rw [e]; simp
  ·show s.D.sync.n1.length ≤ _
   rw [e]; exact q.n1
 rw [if_neg c2]
 by_cases c3 : ph = 3
 ·subst c3
  rw [if_pos rfl]
  have q := h.le (k' := k + wrN 4 - wrN 3) (m' := m + 1) (by simp [wrN]) (by omega)
  have hv : VwE (if validB s.v T.rd = true then landT s.v T else s.v) := by
   split
   ·exact h.v.land hT
   ·exact h.v
  have hc : 0 ≤ (if validB s.v T.rd = true then landT s.v T else s.v).clock ∧ (if validB s.v T.rd = true then landT s.v T else s.v).clock ≤ (m + 1 : Nat) := by
   have := h.c
   split
   ·show 0 ≤ s.v.clock + 1 ∧ s.v.clock + 1 ≤ _
    omega
   ·omega
  refine ⟨hv, hc, ?_, q.D, q.dw, q.n1, q.z, ?_, q.f⟩
  ·refine (h.wi.send (A.o ++ A.l)).le ?_
   simp; omega
  ·have := h.b
   show s.b + 1 ≤ _
   omega
 rw [if_neg c3]
 exact h.le (by simp) (by omega)
theorem acOf_len (x : TyA) : (acOf x).o.length + (acOf x).l.length ≤ 2 := by
 unfold acOf; simp only; split <;> simp
section
variable {H0 : Heap} {F : List HP} {Q : HV → List HP → Prop} [Sea] [SeaOk] [SeaLand] [SeaRedo] {n : Nat} {c a b l p k m : Nat} {W : Wd} {x : TrS} {A : Ac} {i ph : Int} {s : CSt}
theorem commit_stepS_v (hc : CInv s k m) (hk : k ≤ 6) (hm : m ≤ 10000) (hT : TE x.t) (hA : A.o.length + A.l.length ≤ 2) (hw : x.w = W.v) (hp : 0 ≤ ph ∧ ph ≤ 4)
  (h : Q (I (stepS x.t A i ph s).1) (own rC c (cmC i a (stepS x.t A i ph s).2.1) :: own rTry a x :: own rActs x.ac A :: wpP b l p W (stepS x.t A i ph s).2.2 F)) :
  Wp H0 (own rC c (cmC i a ph) :: own rTry a x :: own rActs x.ac A :: wpP b l p W s F) (f_commit_Commit_Step (lv (n + 2)) [.ptr (some (c, 0)), .ptr (some (b, 0))]) Q := by
 have ht := hT.at hc.v
 have hvv := hc.v.p
 have hcl := hc.c
 have hz := hc.z
 have hn := hc.n1
 have hbb := hc.b
 obtain rfl | rfl | rfl | rfl | rfl : ph = 0 ∨ ph = 1 ∨ ph = 2 ∨ ph = 3 ∨ ph = 4 := by omega
 ·refine Wp.cl ?_
  refine Wp.ent (P' := own rC c (cmC i a 0) :: own rWd b { W with b := s.b, f := s.f } :: own rC W.t (tkC s.tk) :: own rTry a x :: own rView x.w s.v :: own rActs x.ac A :: own rC W.w (wiC s.wi) :: own rC W.a (vaC ⟨p, l, 1⟩) :: own rC l (lgC ⟨p, 1, s.z⟩) :: own rDisk p s.D :: F)
   (by rw [hw]; exact .cons rfl (.cons rfl (.cons rfl (.cons rfl (.cons rfl (.cons rfl .refl)))))) ?_
  refine commit_Step_0 (i := i) (a := a) ?_
  unfold stepS at h
  rw [if_pos rfl] at h
  refine commit_check_v (w := { W with b := s.b, f := s.f }) (t := s.tk) (x := x) (v := s.v) hvv.ok ht.rk (fun e1 => ⟨10, rfl, ?_⟩) (fun e1 e2 => ⟨9, rfl, ?_⟩) (fun e1 e2 => ⟨0, rfl, ?_⟩)
  ·rw [if_pos e1] at h
   refine ⟨_, h, ?_⟩
   rw [hw]; exact .cons rfl (.cons rfl (.cons rfl (.cons rfl (.cons rfl (.cons rfl .refl)))))
  ·rw [if_neg (by rw [e1]; decide), if_pos e2] at h
   refine ⟨_, h, ?_⟩
   rw [hw]; exact .cons rfl (.cons rfl (.cons rfl (.cons rfl (.cons rfl (.cons rfl .refl)))))
  ·rw [if_neg (by rw [e1]; decide), if_neg (by rw [e2]; decide)] at h
   refine ⟨_, h, ?_⟩
   rw [hw]; exact .cons rfl (.cons rfl (.cons rfl (.cons rfl (.cons rfl (.cons rfl .refl)))))
 ·refine Wp.cl ?_
  refine Wp.ent (P' := own rC c (cmC i a 1) :: own rWd b { W with b := s.b, f := s.f } :: own rC W.t (tkC s.tk) :: own rC W.a (vaC ⟨p, l, 1⟩) :: own rC l (lgC ⟨p, 1, s.z⟩) :: own rDisk p s.D :: own rTry a x :: own rActs x.ac A :: own rView W.v s.v :: own rC W.w (wiC s.wi) :: F)
   (.cons rfl (.cons rfl (.cons rfl (.cons rfl (.cons rfl (.cons rfl (.cons rfl (.cons rfl (.cons rfl (.cons rfl .refl)))))))))) ?_
  refine commit_Step_1 (i := i) (a := a) ?_
  unfold stepS at h
  rw [if_neg (by decide), if_pos rfl] at h
  refine commit_write_v (w := { W with b := s.b, f := s.f }) (t := s.tk) (va := ⟨p, l, 1⟩) (l := ⟨p, 1, s.z⟩) (d := s.D) (x := x) hc.D (Nat.le_refl 1) (by show s.z ≤ 2048; omega) (by show s.D.n1.length ≤ _; omega) (by show s.b ≤ _; omega) hc.f ht.df ht.fl (fun e1 e2 => ⟨10, rfl, ?_⟩) (fun e1 e2 => ⟨7, rfl, ?_⟩) (fun e1 => ⟨0, rfl, ?_⟩)
  ·rw [if_pos e1, if_pos e2] at h
   refine ⟨_, h, .cons rfl (.cons rfl (.cons rfl (.cons rfl (.cons rfl (.cons rfl (.cons rfl (.cons rfl (.cons rfl (.cons rfl .refl)))))))))⟩
  ·rw [if_pos e1, if_neg (by rw [e2]; decide)] at h
   refine ⟨_, h, .cons rfl (.cons rfl (.cons rfl (.cons rfl (.cons rfl (.cons rfl (.cons rfl (.cons rfl (.cons rfl (.cons rfl .refl)))))))))⟩
  ·have e1 : s.f = 0 := e1
   rw [if_neg (by omega)] at h
   refine ⟨_, h, .cons rfl (.cons rfl (.cons rfl (.cons rfl (.cons rfl (.cons rfl (.cons rfl (.cons rfl (.cons rfl (.cons rfl .refl)))))))))⟩
 ·refine Wp.cl ?_
  refine Wp.ent (P' := own rC c (cmC i a 2) :: own rWd b { W with b := s.b, f := s.f } :: own rC W.a (vaC ⟨p, l, 1⟩) :: own rC l (lgC ⟨p, 1, s.z⟩) :: own rDisk p s.D :: own rC W.t (tkC s.tk) :: own rTry a x :: own rActs x.ac A :: own rView W.v s.v :: own rC W.w (wiC s.wi) :: F)
   (.cons rfl (.cons rfl (.cons rfl (.cons rfl (.cons rfl (.cons rfl (.cons rfl (.cons rfl (.cons rfl (.cons rfl .refl)))))))))) ?_
  unfold stepS at h
  rw [if_neg (by decide), if_neg (by decide), if_pos rfl] at h
  refine commit_Step_2 (w := { W with b := s.b, f := s.f }) (va := ⟨p, l, 1⟩) (l := ⟨p, 1, s.z⟩) (d := s.D) hc.D ?_
  exact ⟨_, h, .cons rfl (.cons rfl (.cons rfl (.cons rfl (.cons rfl (.cons rfl (.cons rfl (.cons rfl (.cons rfl (.cons rfl .refl)))))))))⟩
 ·refine Wp.cl ?_
  refine Wp.ent (P' := own rC c (cmC i a 3) :: own rWd b { W with b := s.b, f := s.f } :: own rC W.t (tkC s.tk) :: own rC W.w (wiC s.wi) :: own rTry a x :: own rActs x.ac A :: own rView x.w s.v :: own rC W.a (vaC ⟨p, l, 1⟩) :: own rC l (lgC ⟨p, 1, s.z⟩) :: own rDisk p s.D :: F)
   (by rw [hw]; exact .cons rfl (.cons rfl (.cons rfl (.cons rfl (.cons rfl (.cons rfl (.cons rfl .refl))))))) ?_
  refine commit_Step_3 (i := i) (a := a) ?_
  unfold stepS at h
  rw [if_neg (by decide), if_neg (by decide), if_neg (by decide), if_pos rfl] at h
  refine commit_land_v (m := 2 * m) (w := { W with b := s.b, f := s.f }) (t := s.tk) (x := x) (v := s.v) (wi := s.wi) (ac := A) hvv ht (by omega) hc.wi (by omega) (by omega) (by show s.b ≤ _; omega) ⟨0, rfl, ?_⟩
  refine ⟨_, h, ?_⟩
  rw [hw]
  exact .cons rfl (.cons rfl (.cons rfl (.cons rfl (.cons rfl (.cons rfl (.cons rfl (.cons rfl (.cons rfl (.cons rfl .refl)))))))))
 ·unfold stepS at h
  rw [if_neg (by decide), if_neg (by decide), if_neg (by decide), if_neg (by decide)] at h
  exact commit_Step_4 (i := i) (a := a) h
end
section
variable {H0 : Heap} {P F : List HP} {Q : HV → List HP → Prop} {D : HV → List HV → M HV}
theorem great_r {s : Sl} {xs : List TyA} [rr : RoR H0 s TyA tyC 7 xs] (h : Q (.bool (greatB xs)) P) : Wp H0 P (f_law22_great D [.sl s]) Q := by
 unfold f_law22_great
 have g := rr.len
 refine go ⟨fun c => ?_, fun c => ?_⟩
 ·have e : greatB xs = true := by unfold greatB; rw [decide_eq_true (by omega)]; rfl
  rw [e] at h; exact h
 ·have hl : xs.length ≤ 6 := by omega
  refine Wp.forL (σ := Unit) xs.length (by omega) (by omega) (fun _ i => [I i]) (out := fun _ => []) (fun _ _ => rfl) (fun i _ => (xs.take i).any TyA.great = false) (fun _ _ => P) () rfl rfl .refl ?_ ?_
  ·intro i _ hi hp
   have hx : xs[i]? = some xs[i] := List.getElem?_eq_getElem hi
   have hm : xs[i] ∈ xs := List.getElem_mem hi
   generalize xs[i] = x at hx hm
   have htk : (xs.take (i + 1)).any TyA.great = x.great := by
    rw [List.take_add_one, hx, List.any_append, hp]; simp
   have bad : x.great = true → Q (.bool true) P := fun e => by
    have : greatB xs = true := by
     unfold greatB
     have : xs.any TyA.great = true := List.any_eq_true.2 ⟨x, hm, e⟩
     rw [this]; simp
    rw [this] at h; exact h
   refine Wp.ixRo (x := x) rfl hx fun _ _ => ?_
   refine go ⟨fun c1 => ?_, fun c1 => ⟨fun c2 => ?_, fun c2 => ⟨fun c3 => ?_, fun c3 => ?_⟩⟩⟩
   ·exact bad (by unfold TyA.great; rw [decide_eq_true c1]; rfl)
   ·exact bad (by unfold TyA.great; rw [decide_eq_true c2]; simp)
   ·exact bad (by unfold TyA.great; rw [decide_eq_true c3]; simp)
   ·exact ⟨(), rfl, by rw [htk]; unfold TyA.great; rw [decide_eq_false c1, decide_eq_false c2, decide_eq_false c3]; rfl, .refl⟩
  ·intro _ hp
   rw [List.take_length] at hp
   refine go ?_
   have e : greatB xs = false := by unfold greatB; rw [hp, decide_eq_false (by omega)]; rfl
   rw [e] at h; exact h
end
section
variable {H0 : Heap} {P F : List HP} {Q : HV → List HP → Prop} [Sea] [SeaOk] [SeaUndo] {n : Nat}
omit [Sea] [SeaOk] [SeaUndo] in
theorem begEr {p a ac st : Nat} {T : Tri} {A : Ac} {s' : Sl} {w w2 : Wd} {v : Vw} {ts : List (Nat × (TrS × Ac))} {vp : Nat} (hw : w = w2) :
  Ent (own (rR ptC 1) s' (ts.map Prod.fst ++ [a]) :: own rActs ac A :: own rTry a ⟨vp, ac, st, T⟩ :: own rView vp v :: own rWd p w :: (alls rTA ts ++ F))
   (own (rR ptC 1) s' ((ts ++ [(a, ((⟨vp, ac, st, T⟩ : TrS), A))]).map Prod.fst) :: own rWd p w2 :: own rView vp v :: (alls rTA (ts ++ [(a, ((⟨vp, ac, st, T⟩ : TrS), A))]) ++ F)) := by
 subst hw
 refine Ent.trans (P' := own (rR ptC 1) s' (ts.map Prod.fst ++ [a]) :: own rWd p w :: own rView vp v :: own rTA a ((⟨vp, ac, st, T⟩ : TrS), A) :: (alls rTA ts ++ F)) ?_ ?_
 ·exact Ent.head (fun _ q => q) (.cons rfl (.cons rfl (.fold () trivial (.cons rfl (.cons rfl .refl)))))
 ·rw [List.map_append]
  exact Ent.head (fun _ q => q) (Ent.head (fun _ q => q) (Ent.head (fun _ q => q) alls_snoc))
theorem begun_r {p : Nat} {w : Wd} {v : Vw} {s : Sl} {xs : List TyA} {ls : TyA → List Dee} [rr : RoR H0 s TyA tyC 7 xs] (hr : ∀ x ∈ xs, RoR H0 x.s Dee deC 4 (ls x)) (hl : ∀ x ∈ xs, (ls x).length ≤ 1000000) (hx : xs.length ≤ 1000) (hv : VwP v)
  (h : ∀ s' ts, BegP v w.v ls xs ts → Q (.sl s') (own (rR ptC 1) s' (ts.map Prod.fst) :: own rWd p (wdsOf w xs) :: own rView w.v v :: own (rAll rTA) 0 ts :: F)) :
  Wp H0 (own rWd p w :: own rView w.v v :: F) (f_law22_begun (lv (n + 2)) [.ptr (some (p, 0)), .sl s]) Q := by
 refine Wp.cl ?_
 have hroom : room = 140737488355328 := rfl
 unfold f_law22_begun
 have g := rr.len
 refine Wp.nil ptC (sz := 1) (by decide) ?_
 refine go ?_
 refine Wp.forL (σ := Sl × List (Nat × (TrS × Ac))) xs.length (by omega) (by omega) (fun x i => [.sl x.1, I i]) (out := fun x => [.sl x.1]) (fun _ _ => rfl) (fun i x => BegP v w.v ls (xs.take i) x.2)
  (fun i x => own (rR ptC 1) x.1 (x.2.map Prod.fst) :: own rWd p (wdsOf w (xs.take i)) :: own rView w.v v :: (alls rTA x.2 ++ F)) (⟨none, 0, 0, none⟩, []) rfl ⟨rfl, fun j x e hj => by simp at hj⟩ .refl ?_ ?_
 ·rintro i ⟨sp, ts⟩ hi hp
  have hxi : xs[i]? = some xs[i] := List.getElem?_eq_getElem hi
  have hm : xs[i] ∈ xs := List.getElem_mem hi
  generalize xs[i] = x at hxi hm
  have hro := hr x hm
  refine Wp.ixRo (x := x) rfl hxi fun _ _ => ?_
  refine go ?_
  refine world_View_e (w := wdsOf w (xs.take i)) (vv := w.v) (wdsOf_v _ _) ?_
  refine go ?_
  refine attempt_New_v (v := v) (r := (0, 0, 0, 0)) fun a ac st => ?_
  refine go ?_
  refine Wp.ent (P' := own rC ac [.sl ⟨none, 0, 0, none⟩, .sl ⟨none, 0, 0, none⟩, .sl ⟨none, 0, 0, none⟩, .sl ⟨none, 0, 0, none⟩] :: own rTry a ⟨w.v, ac, st, tri0 v.clock (0, 0, 0, 0)⟩ :: own rView w.v v :: own (rR ptC 1) sp (ts.map Prod.fst) :: own rWd p (wdsOf w (xs.take i)) :: (alls rTA ts ++ F)) (.cons rfl (.cons rfl (.cons rfl (.weak (.pick (.cons rfl .refl)))))) ?_
  refine Wp.ent Ent.acts ?_
  refine Wp.ent (P' := own rTry a ⟨w.v, ac, st, tri0 v.clock (0, 0, 0, 0)⟩ :: own rView w.v v :: own rActs ac ⟨[], [], [], []⟩ :: own (rR ptC 1) sp (ts.map Prod.fst) :: own rWd p (wdsOf w (xs.take i)) :: (alls rTA ts ++ F)) (.cons rfl (.cons rfl .refl)) ?_
  refine deeds_v (n := n + 1) (y := ⟨w.v, ac, st, tri0 v.clock (0, 0, 0, 0)⟩) hv (tri0_ok hv) (hl x hm) ?_
  generalize hw1 : wdsOf w (xs.take i) = w1
  refine go ?_
  refine attempt_Acts_v (x := ⟨w.v, ac, st, dosT v (tri0 v.clock (0, 0, 0, 0)) (ls x)⟩) ?_
  refine go ?_
  refine acts_Send_v (a := ⟨[], [], [], []⟩) (by simp) fun _ => ?_
  refine go ?_
  refine attempt_Acts_v (x := ⟨w.v, ac, st, dosT v (tri0 v.clock (0, 0, 0, 0)) (ls x)⟩) ?_
  refine go ?_
  refine acts_Later_v (a := ⟨(acOf x).o, [], [], []⟩) (by simp) fun _ => ?_
  refine go ?_
  refine attempt_Acts_v (x := ⟨w.v, ac, st, dosT v (tri0 v.clock (0, 0, 0, 0)) (ls x)⟩) ?_
  refine go ?_
  refine acts_Note_v (a := ⟨(acOf x).o, (acOf x).l, [], []⟩) (by simp) ?_
  refine go ?_
  refine attempt_Acts_v (x := ⟨w.v, ac, st, dosT v (tri0 v.clock (0, 0, 0, 0)) (ls x)⟩) ?_
  refine go ?_
  refine acts_Opened_v (a := ⟨(acOf x).o, (acOf x).l, (acOf x).n, []⟩) (by simp) ?_
  show Wp H0 (own rActs ac (acOf x) :: own rTry a ⟨w.v, ac, st, dosT v (tri0 v.clock (0, 0, 0, 0)) (ls x)⟩ :: own rView w.v v :: own (rR ptC 1) sp (ts.map Prod.fst) :: own rWd p w1 :: (alls rTA ts ++ F)) _ _
  have htl : ts.length ≤ 1000 := by have := hp.1; simp at this; omega
  have hws : wdsOf w (xs.take (i + 1)) = wdOf w1 x := by rw [wdsOf_snoc hxi, hw1]
  refine go ⟨fun c => ?_, fun c => ?_⟩
  ·have hpl : (acOf x).p.length ≤ 1 := by unfold acOf; simp only; split <;> simp
   have hul : (undoL (acOf x).p).length ≤ 1 := by unfold undoL; simpa using hpl
   refine attempt_Acts_v (x := ⟨w.v, ac, st, dosT v (tri0 v.clock (0, 0, 0, 0)) (ls x)⟩) ?_
   refine go ?_
   refine acts_Undo_v (n := n) (a := acOf x) (by omega) fun s4 => ?_
   refine go ?_
   refine Wp.row (s := s4) fun q4 => ?_
   have g4 := q4.len
   refine Wp.forL (σ := Unit) (undoL (acOf x).p).length (by omega) (by omega) (fun _ i => [I i]) (out := fun _ => []) (fun _ _ => rfl) (fun _ _ => True)
    (fun j _ => own (rR opC 2) s4 (undoL (acOf x).p) :: own rActs ac (acOf x) :: own rTry a ⟨w.v, ac, st, dosT v (tri0 v.clock (0, 0, 0, 0)) (ls x)⟩ :: own rView w.v v :: own (rR ptC 1) sp (ts.map Prod.fst) :: own rWd p (w1.add (((undoL (acOf x).p).take j).map negO)) :: (alls rTA ts ++ F)) () rfl trivial .refl ?_ ?_
   ·intro j _ hj _
    have hxj : (undoL (acOf x).p)[j]? = some (undoL (acOf x).p)[j] := List.getElem?_eq_getElem hj
    generalize (undoL (acOf x).p)[j] = o at hxj
    have hadd : w1.add (((undoL (acOf x).p).take (j + 1)).map negO) = (w1.add (((undoL (acOf x).p).take j).map negO)).add [negO o] := by
     rw [List.take_add_one, hxj, List.map_append]
     unfold Wd.add
     rw [List.foldl_append]; rfl
    refine Wp.ixN (x := o) (f := opC) (s := s4) rfl hxj fun _ _ => ?_
    refine go fun b74 => ?_
    refine Wp.ent (Ent.row (b := b74) (f := opC) (sz := 2) (xs := [negO o]) (o := none) rfl (fun _ _ => rfl) (by decide) (by simp) (.inl rfl)) ?_
    refine world_Add_v (l := [negO o]) (by simp) ?_
    refine go ?_
    exact ⟨(), rfl, trivial, .pick (.pick (.pick (.pick (.pick (.cons hadd.symm (.weak .refl))))))⟩
   ·intro _ _
    rw [List.take_length]
    refine go ?_
    refine Wp.apd (x := a) rfl rfl (by simp; omega) (by simp; omega) fun s' => ?_
    refine go ?_
    refine ⟨(s', ts ++ [(a, ((⟨w.v, ac, st, dosT v (tri0 v.clock (0, 0, 0, 0)) (ls x)⟩ : TrS), acOf x))]), rfl, hp.snoc hxi ⟨rfl, rfl, rfl⟩, Ent.trans ?_ (begEr (w := w1.add ((undoL (acOf x).p).map negO)) hws.symm)⟩
    exact Ent.head (fun _ q => q) (.weak .refl)
  ·have c : ¬ (0 ≤ x.tally ∧ x.tally < 4) := by simpa using c
   have hw2 : w1 = wdsOf w (xs.take (i + 1)) := by
    rw [hws]; unfold wdOf acOf; simp only; rw [if_neg c]; rfl
   refine Wp.apd (x := a) rfl rfl (by simp; omega) (by simp; omega) fun s' => ?_
   refine go ?_
   exact ⟨(s', ts ++ [(a, ((⟨w.v, ac, st, dosT v (tri0 v.clock (0, 0, 0, 0)) (ls x)⟩ : TrS), acOf x))]), rfl, hp.snoc hxi ⟨rfl, rfl, rfl⟩, begEr hw2⟩
 ·rintro ⟨sp, ts⟩ hp
  rw [List.take_length] at hp ⊢
  refine go ?_
  exact ⟨_, h sp ts hp, Ent.head (fun _ q => q) (Ent.head (fun _ q => q) (Ent.head (fun _ q => q) Ent.allF))⟩
end
theorem Wp.ixRoC {α γ : Type} {H0 : Heap} {P : List HP} {Q : α → List HP → Prop} {s : Sl} {f : γ → List HV} {sz : Nat} {xs : List γ} {i : Int} {j k : Nat} {x : γ} {v : HV} {g : Nat → Nat → HV → M α} [r : RoR H0 s γ f sz xs] (hj : i = (j : Int)) (hi : xs[j]? = some x) (hv : (f x)[k]? = some v) (h : ∀ b o, Wp H0 P (g b o v) Q) : Wp H0 P (HQ.ix s i sz fun b o => HQ.ldC b (o + k) fun c => g b o c) Q := fun H hH => by
 subst hj
 have hr := SlR.keeps r.h hH.kp.k
 obtain ⟨b, o, cs, ro, h1, h2, h3, h4⟩ := hr.at (i := j) (l := f x) (by simp [hi])
 have hlt : j < xs.length := (List.getElem?_eq_some_iff.1 hi).1
 have hk := (List.getElem?_eq_some_iff.1 hv).1
 have hfl : (f x).length = sz := hr.szs _ (List.mem_map.2 ⟨x, List.mem_of_getElem? hi, rfl⟩)
 unfold ix
 refine wp_gd (by simp) (wp_gd (by rw [hr.len]; simp; omega) ?_)
 rw [h1, mP_eq']
 refine wp_of (m' := g b (o + (j : Int).toNat * sz) v) (fun n => ?_) (h _ _ H hH)
 show HQ.ldC b (o + (j : Int).toNat * sz + k) (fun c => g b (o + (j : Int).toNat * sz) c) H n = _
 unfold HQ.ldC
 simp only [h2]
 have : cs[o + (j : Int).toNat * sz + k]? = some v := by
  rw [← h4, List.getElem?_take, if_pos (by omega), List.getElem?_drop] at hv
  exact hv
 unfold HQ.gx
 rw [this]
theorem Wp.eqM {α : Type} {H0 : Heap} {P : List HP} {Q : α → List HP → Prop} {sh : List Sc} {xs ys : List HV} {b : Bool} {f : Bool → M α} (he : eqSh sh xs ys = some b) (h : Wp H0 P (f b) Q) : Wp H0 P (HQ.eqM sh xs ys f) Q := by
 unfold HQ.eqM; rw [he]; exact h
abbrev c1 (x : Int × Int) : HV := I x.1
abbrev f2 (x : Fl × Int) : List HV := [.bool x.1.1, .str (S x.1.2)]
def thC (v : Vw) : List HV := v.cells.map c1 ++ ((v.files.map f2).flatten ++ v.places.map c1)
theorem take_snocM {α β : Type} {f : α → β} {xs : List α} {i : Nat} {x : α} (h : xs[i]? = some x) : (xs.take (i + 1)).map f = (xs.take i).map f ++ [f x] := by
 rw [List.take_add_one, h]; simp
theorem set_midM {α : Type} {A B : List α} {x y : α} : (A ++ x :: B).set A.length y = A ++ y :: B := by
 rw [List.set_append_right _ _ (Nat.le_refl _), Nat.sub_self]; rfl
theorem putN_midM {A B X Y : List HV} (h : X.length = Y.length) : putN (A ++ (X ++ B)) A.length Y = A ++ (Y ++ B) := by
 unfold putN
 rw [List.take_left, ← h, List.drop_append, List.drop_eq_nil_of_le (by omega)]
 have : A.length + X.length - A.length = X.length := by omega
 rw [this, List.drop_left]; simp
abbrev zF : List HV := [.bool false, .str (ByteArray.mk #[])]
theorem flat_len2 (l : List (Fl × Int)) : ((l.map f2).flatten).length = l.length * 2 := by
 induction l with
 | nil => rfl
 | cons a l ih => simp [ih]; omega
section
variable {H0 : Heap} {P F F' : List HP} {Q : HV → List HP → Prop} {D : HV → List HV → M HV}
theorem things_v {p q : Nat} {w : Wd} {v : Vw} [fw : Fnd P rWd p w F] [fv : Fnd P rView q v F'] (e : w.v = q) (ok : VOk v) (h : Q (.agg (thC v)) P) : Wp H0 P (f_law22_things D [.ptr (some (p, 0))]) Q := by
 refine Wp.cl ?_
 unfold f_law22_things
 refine go ?_
 refine Wp.forL (σ := List HV) 8 (by decide) (by decide) (fun y i => [I i, .agg y]) (out := fun y => [.agg y]) (fun _ _ => rfl)
  (fun i y => y = (v.cells.take i).map c1 ++ (List.replicate (8 - i) (I 0) ++ ((List.replicate 6 zF).flatten ++ List.replicate 3 (I 0)))) (fun _ _ => P) _ rfl rfl .refl ?_ ?_
 ·intro i y hi hy
  obtain ⟨x, hx⟩ : ∃ x, v.cells[i]? = some x := ⟨_, List.getElem?_eq_getElem (by rw [ok.c]; exact hi)⟩
  have hl : ((v.cells.take i).map c1).length = i := by simp [ok.c]; omega
  refine go ?_
  refine world_View_e (w := w) e ?_
  refine go ?_
  refine Wp.open rView q fun z _ => ?_
  refine go ?_
  refine cell_Row_int_Get_v (xs := v.cells) (x := x) (by omega) (by simpa using hx) ?_
  refine go ⟨by omega, by omega, ?_, ?_⟩
  ·rw [hy, List.length_append, hl]; simp <;> omega
  ·refine ⟨_, rfl, ?_, .back rView q (.fold z trivial .refl)⟩
   rw [hy, take_snocM hx, List.append_assoc, show 8 - i = (8 - (i + 1)) + 1 by omega, List.replicate_succ]
   have := set_midM (A := (v.cells.take i).map c1) (B := List.replicate (8 - (i + 1)) (I 0) ++ ((List.replicate 6 zF).flatten ++ List.replicate 3 (I 0))) (x := I 0) (y := c1 x)
   rw [hl] at this
   simp only [List.cons_append, Nat.zero_add, Nat.mul_one, List.nil_append, Int.toNat_natCast]
   exact this
 intro y hy
 rw [List.take_of_length_le (by rw [ok.c]; decide)] at hy
 refine go ?_
 have hcl : (v.cells.map c1).length = 8 := by simp [ok.c]
 refine Wp.forL (σ := List HV) 6 (by decide) (by decide) (fun y i => [I i, .agg y]) (out := fun y => [.agg y]) (fun _ _ => rfl)
  (fun i y => y = (v.cells.map c1 ++ ((v.files.take i).map f2).flatten) ++ ((List.replicate (6 - i) zF).flatten ++ List.replicate 3 (I 0))) (fun _ _ => P) y rfl (by rw [hy]; simp) .refl ?_ ?_
 ·intro i y hi hy
  obtain ⟨x, hx⟩ : ∃ x, v.files[i]? = some x := ⟨_, List.getElem?_eq_getElem (by rw [ok.f]; exact hi)⟩
  have hl : (v.cells.map c1 ++ ((v.files.take i).map f2).flatten).length = 8 + i * 2 := by
   rw [List.length_append, hcl, flat_len2, List.length_take, ok.f]; omega
  have hrp : 6 - i = (6 - (i + 1)) + 1 := by omega
  refine go ?_
  refine world_View_e (w := w) e ?_
  refine go ?_
  refine Wp.open rView q fun z _ => ?_
  refine go ?_
  refine tome_Get_v (fs := v.files) (x := x) (by omega) (by simpa using hx) ?_
  refine go ⟨by omega, by omega, ?_, ?_⟩
  ·rw [hy, hrp, List.length_append, hl, List.replicate_succ]; simp <;> omega
  ·refine ⟨_, rfl, ?_, .back rView q (.fold z trivial .refl)⟩
   rw [hy, take_snocM hx, hrp, List.replicate_succ, List.flatten_cons, List.flatten_append]
   have := putN_midM (A := v.cells.map c1 ++ ((v.files.take i).map f2).flatten) (B := (List.replicate (6 - (i + 1)) zF).flatten ++ List.replicate 3 (I 0)) (X := zF) (Y := f2 x) rfl
   rw [hl] at this
   simp only [Int.toNat_natCast, List.append_assoc] at this ⊢
   rw [this]
   simp
 intro y hy
 rw [List.take_of_length_le (by rw [ok.f]; decide)] at hy
 refine go ?_
 refine Wp.forL (σ := List HV) 3 (by decide) (by decide) (fun y i => [I i, .agg y]) (out := fun y => [.agg y]) (fun _ _ => rfl)
  (fun i y => y = (v.cells.map c1 ++ (v.files.map f2).flatten ++ (v.places.take i).map c1) ++ List.replicate (3 - i) (I 0)) (fun _ _ => P) y rfl (by rw [hy]; simp) .refl ?_ ?_
 ·intro i y hi hy
  obtain ⟨x, hx⟩ : ∃ x, v.places[i]? = some x := ⟨_, List.getElem?_eq_getElem (by rw [ok.p]; exact hi)⟩
  have hl : (v.cells.map c1 ++ (v.files.map f2).flatten ++ (v.places.take i).map c1).length = 20 + i := by
   rw [List.length_append, List.length_append, hcl, flat_len2, ok.f, List.length_map, List.length_take, ok.p]; omega
  refine go ?_
  refine world_View_e (w := w) e ?_
  refine go ?_
  refine Wp.open rView q fun z _ => ?_
  refine go ?_
  refine feed_Place_v (ts := v.texts) (ps := v.places) (x := x) (by omega) (by simpa using hx) ?_
  refine go ⟨by omega, by omega, ?_, ?_⟩
  ·rw [hy, List.length_append, hl]; simp <;> omega
  ·refine ⟨_, rfl, ?_, .back rView q (.fold z trivial .refl)⟩
   rw [hy, take_snocM hx, show 3 - i = (3 - (i + 1)) + 1 by omega, List.replicate_succ]
   have := set_midM (A := v.cells.map c1 ++ (v.files.map f2).flatten ++ (v.places.take i).map c1) (B := List.replicate (3 - (i + 1)) (I 0)) (x := I 0) (y := c1 x)
   rw [hl] at this
   simp only [Int.toNat_natCast, Nat.mul_one, List.append_assoc] at this ⊢
   rw [this]
   simp
 intro y hy
 rw [List.take_of_length_le (by rw [ok.p]; decide)] at hy
 have hy : y = thC v := by rw [hy]; unfold thC; simp
 have hl : (thC v).length = 23 := by
  unfold thC
  rw [List.length_append, List.length_append, hcl, flat_len2, ok.f, List.length_map, ok.p]
 subst hy
 refine go ?_
 refine Wp.gxN (vs := thC v) (by omega) (by rw [List.drop_zero, List.take_of_length_le (by omega)]) ?_
 refine go ⟨?_, ?_, ?_⟩
 ·rw [hl]; rfl
 ·rw [hl]; decide
 refine Wp.gxN (vs := thC v) ?_ ?_ ?_
 ·unfold putN; simp [hl]
 ·unfold putN
  rw [hl]
  simp only [List.take_zero, List.nil_append, List.drop_zero, Nat.zero_add]
  rw [List.take_append_of_le_length (by omega), List.take_of_length_le (by omega)]
 refine go ?_
 exact ⟨_, h, .refl⟩
end
def cst0 : CSt := ⟨0, 0, ⟨-1, false, -1⟩, vw0, ⟨[], [], []⟩, (natL 0).length + 8, dkS (natL 0)⟩
theorem cst0_inv : CInv cst0 0 0 := by
 have e0 : (natL 0).length = 1 := by rw [natL_lo (by decide)]; rfl
 refine ⟨.new, ⟨by decide, by decide⟩, ⟨by simp [cst0], by simp [cst0], by simp [cst0]⟩, dkS_ok (by omega), ?_, ?_, ?_, by decide, by decide⟩
 ·show (dkS (natL 0)).w.length ≤ _
  simp
 ·show (dkS (natL 0)).n1.length ≤ _
  show (stlL (natL 0)).length ≤ _
  unfold stlL
  rw [closeL_len, stlS_len, e0]; omega
 ·show (natL 0).length + 8 ≤ _
  omega
theorem wdsOf_rest' (xs : List TyA) : ∀ w : Wd, (wdsOf w xs).t = w.t ∧ (wdsOf w xs).ns = w.ns ∧ (wdsOf w xs).v = w.v ∧ (wdsOf w xs).w = w.w ∧ (wdsOf w xs).a = w.a ∧ (wdsOf w xs).b = w.b ∧ (wdsOf w xs).f = w.f := by
 induction xs with
 | nil => intro w; exact ⟨rfl, rfl, rfl, rfl, rfl, rfl, rfl⟩
 | cons x xs ih =>
  intro w
  have h := ih (wdOf w x)
  have e := Wd.add_rest ((undoL (acOf x).p).map negO) w
  show (wdsOf (wdOf w x) xs).t = w.t ∧ _
  exact ⟨h.1.trans e.1, h.2.1.trans e.2.1, h.2.2.1.trans e.2.2.1, h.2.2.2.1.trans e.2.2.2.1, h.2.2.2.2.1.trans e.2.2.2.2.1, h.2.2.2.2.2.1.trans e.2.2.2.2.2.1, h.2.2.2.2.2.2.trans e.2.2.2.2.2.2⟩
/-! tallies -/
def okX (x : TyA) : Prop := -1099511627776 ≤ x.delta ∧ x.delta ≤ 1099511627776
def wrote : List (Nat × (Int × Nat × Int)) → Nat
 | [] => 0
 | x :: l => wrN x.2.2.2 + wrote l
theorem wrote_le : ∀ l, wrote l ≤ l.length
 | [] => Nat.le_refl _
 | x :: l => by
  have := wrote_le l
  have h : wrN x.2.2.2 ≤ 1 := by unfold wrN; split <;> omega
  simp only [wrote, List.length_cons]; omega
theorem wrote_set : ∀ {l : List (Nat × (Int × Nat × Int))} {j : Nat} {x y : Nat × (Int × Nat × Int)}, l[j]? = some x → wrote (l.set j y) + wrN x.2.2.2 = wrote l + wrN y.2.2.2
 | [], j, x, y, h => by simp at h
 | z :: l, 0, x, y, h => by
  simp at h; subst h
  simp only [List.set_cons_zero, wrote]; omega
 | z :: l, j + 1, x, y, h => by
  have := wrote_set (y := y) (show l[j]? = some x by simpa using h)
  simp only [List.set_cons_succ, wrote]; omega
structure MI (ts : List (Nat × (TrS × Ac))) (cs : List Nat) (s : CSt) (cms : List (Nat × (Int × Nat × Int))) (m : Nat) : Prop where
 n : cms.length = ts.length
 c : cms.map Prod.fst = cs
 e : ∀ (j : Nat) (c : Nat) (i : Int) (a : Nat) (ph : Int) (t : Nat × (TrS × Ac)), cms[j]? = some (c, i, a, ph) → ts[j]? = some t → i = j ∧ a = t.1 ∧ 0 ≤ ph ∧ ph ≤ 4
 k : CInv s (wrote cms) m
theorem stepS_ph {T : Tri} {A : Ac} {i ph : Int} {s : CSt} (h : 0 ≤ ph ∧ ph ≤ 4) : 0 ≤ (stepS T A i ph s).2.1 ∧ (stepS T A i ph s).2.1 ≤ 4 := by
 unfold stepS
 split
 ·split
  ·simp
  ·split
   ·simp
   ·simp only; split <;> simp
 ·split
  ·split
   ·split <;> simp
   ·simp
  ·split
   ·simp
   ·split
    ·simp
    ·exact h
theorem set_fst {γ : Type} {l : List (Nat × γ)} {j c : Nat} {x y : γ} (h : l[j]? = some (c, x)) : (l.set j (c, y)).map Prod.fst = l.map Prod.fst := by
 rw [List.map_set]
 refine List.ext_getElem? fun k => ?_
 rw [List.getElem?_set]
 split
 ·rename_i e
  subst e
  split
  ·rw [List.getElem?_map, h]; rfl
  ·rename_i q
   rw [List.getElem?_eq_none (by omega)]
 ·rfl
theorem MI.step {ts : List (Nat × (TrS × Ac))} {cs : List Nat} {s : CSt} {cms : List (Nat × (Int × Nat × Int))} {m j c a : Nat} {i ph : Int} {y : TrS} {A : Ac} (h : MI ts cs s cms m) (hj : cms[j]? = some (c, i, a, ph)) (ht : ts[j]? = some (a, y, A))
  (hT : TE y.t) (hA : A.o.length + A.l.length ≤ 2) (hn : ts.length ≤ 6) (hm : m ≤ 10000) : MI ts cs (stepS y.t A i ph s).2.2 (cms.set j (c, i, a, (stepS y.t A i ph s).2.1)) (m + 1) := by
 have he := h.e j c i a ph _ hj ht
 have hw := wrote_le cms
 have hs := wrote_set (y := (c, i, a, (stepS y.t A i ph s).2.1)) hj
 simp only at hs
 refine ⟨by simp [h.n], by rw [set_fst hj, h.c], fun j' c' i' a' ph' t' h1 h2 => ?_, ?_⟩
 ·rw [List.getElem?_set] at h1
  split at h1
  ·rename_i q
   subst q
   split at h1
   ·rw [ht] at h2
    cases h1; cases h2
    exact ⟨he.1, he.2.1, stepS_ph he.2.2⟩
   ·cases h1
  ·exact h.e j' c' i' a' ph' t' h1 h2
 ·have := h.k.step (i := i) (ph := ph) hT hA (by rw [h.n] at hw; omega) (by omega)
  exact this.le (by omega) (Nat.le_refl _)
section
variable {H0 : Heap} {F : List HP} {Q : HV → List HP → Prop} [Sea] [SeaOk] [SeaLand] [SeaRedo] {n : Nat} {c a b l p m j : Nat} {W : Wd} {y : TrS} {A : Ac} {i ph : Int} {s : CSt}
 {ts : List (Nat × (TrS × Ac))} {cs : List Nat} {cms : List (Nat × (Int × Nat × Int))}
theorem mstep_v (h : MI ts cs s cms m) (hj : cms[j]? = some (c, i, a, ph)) (ht : ts[j]? = some (a, y, A)) (hT : TE y.t) (hA : A.o.length + A.l.length ≤ 2) (hn : ts.length ≤ 6) (hm : m ≤ 10000) (hw : y.w = W.v)
  (hq : Q (I (stepS y.t A i ph s).1) (own (rAll rTA) 0 ts :: own (rAll rCM) 0 (cms.set j (c, i, a, (stepS y.t A i ph s).2.1)) :: wpP b l p W (stepS y.t A i ph s).2.2 F)) :
  Wp H0 (own (rAll rTA) 0 ts :: own (rAll rCM) 0 cms :: wpP b l p W s F) (f_commit_Commit_Step (lv (n + 2)) [.ptr (some (c, 0)), .ptr (some (b, 0))]) Q := by
 have he := h.e j c i a ph _ hj ht
 have hwr := wrote_le cms
 refine Wp.cl ?_
 refine Wp.ent (Ent.out1 (r := rTA) (u := 0) ht) ?_
 refine Wp.open rTA a fun _ _ => ?_
 refine Wp.ent (Ent.out1 (r := rCM) (u := 0) hj) ?_
 refine Wp.ent (P' := own rC c (cmC i a ph) :: own rTry a y :: own rActs y.ac A :: wpP b l p W s (own (rAll rTA) 0 (ts.eraseIdx j) :: own (rAll rCM) 0 (cms.eraseIdx j) :: F))
  (Ent.head (fun _ q => q) (.cons rfl (.cons rfl (.pick (.pick (.pick (.pick (.pick (.pick (.pick (.cons rfl (.cons rfl .refl))))))))))))  ?_
 refine commit_stepS_v (k := wrote cms) (m := m) h.k (by rw [h.n] at hwr; omega) hm hT hA hw he.2.2 ?_
 exact ⟨_, hq, Ent.back1 ht (.fold () trivial (.cons rfl (.cons rfl (.cons rfl (Ent.inn1 hj (Ent.trans (P' := own rC c (cmC i a (stepS y.t A i ph s).2.1) :: own (rAll rCM) 0 (cms.eraseIdx j) :: wpP b l p W (stepS y.t A i ph s).2.2 F) (.cons rfl (.cons rfl .refl)) .refl))))))⟩
end
section
variable {H0 : Heap} {P F : List HP} {Q : HV → List HP → Prop} {D : DD}
end
theorem Ent.all0' {κ γ : Type} {P P' : List HP} {r : κ → γ → HP} {u : Nat} (e : Ent P P') : Ent P (own (rAll r) u ([] : List (κ × γ)) :: P') := e.trans Ent.all0
theorem great_all {xs : List TyA} {ls : TyA → List Dee} {H0 : Heap} (hr : ∀ x ∈ xs, RoR H0 x.s Dee deC 4 (ls x)) (c : greatB xs = false) : xs.length ≤ 6 ∧ (∀ x ∈ xs, (ls x).length ≤ 20) ∧ ∀ x ∈ xs, okX x := by
 unfold greatB TyA.great at c
 simp at c
 refine ⟨by omega, fun x hx => ?_, fun x hx => ?_⟩
 ·have h1 := c.2 x hx
  have h2 := (hr x hx).len
  omega
 ·have h1 := c.2 x hx
  exact ⟨by omega, by omega⟩
theorem begun_all {ts : List (Nat × (TrS × Ac))} {xs : List TyA} {ls : TyA → List Dee} {vp : Nat} (hts : BegP vw0 vp ls xs ts) : ∀ (j : Nat) (e : Nat × (TrS × Ac)), ts[j]? = some e → ∃ x, xs[j]? = some x ∧ e.2.1.w = vp ∧ TE e.2.1.t ∧ e.2.2 = acOf x ∧ e.2.1.t = dosT vw0 (tri0 vw0.clock (0, 0, 0, 0)) (ls x) := fun j e he => by
 have hj := (List.getElem?_eq_some_iff.1 he).1
 rw [hts.1] at hj
 obtain ⟨x, hx⟩ : ∃ x, xs[j]? = some x := ⟨_, List.getElem?_eq_getElem hj⟩
 obtain ⟨u0, u1, u2⟩ := hts.2 j x e hx he
 exact ⟨x, hx, u0, ⟨by rw [u1]; exact dosT_ok vw0P (tri0_ok vw0P)⟩, u2, u1⟩
theorem Wp.outC {α : Type} {H0 : Heap} {P F : List HP} {m : M α} {Q : α → List HP → Prop} {cms : List (Nat × (Int × Nat × Int))} {i c a : Nat} {j ph : Int} [f : Fnd P (rAll rCM) 0 cms F] (h : cms[i]? = some (c, j, a, ph)) (k : Wp H0 (own rC c (cmC j a ph) :: own (rAll rCM) 0 (cms.eraseIdx i) :: F) m Q) : Wp H0 P m Q := Wp.ent (Ent.out1 (r := rCM) (u := 0) h) k
theorem Ent.backC {P P' : List HP} {cms : List (Nat × (Int × Nat × Int))} {i c a : Nat} {j ph : Int} (h : cms[i]? = some (c, j, a, ph)) (e : Ent P (own rC c (cmC j a ph) :: own (rAll rCM) 0 (cms.eraseIdx i) :: P')) : Ent P (own (rAll rCM) 0 cms :: P') := Ent.back1 (r := rCM) h e
theorem u64_mod (y : Int) : IntKind.wrap .u64 y = y % 18446744073709551616 := by
 unfold IntKind.wrap
 rw [show IntKind.u64.signed = false from rfl, show (2 ^ IntKind.u64.bits : Int) = 18446744073709551616 from rfl]
 simp
theorem rem_ok {x : Int} {k : Nat} (hk : 0 < k) (hk2 : k ≤ 1000) : ∃ j : Nat, j < k ∧ wr (Int.tmod (IntKind.wrap .u64 x) (IntKind.wrap .u64 (k : Int))) = (j : Int) := by
 have e : IntKind.wrap .u64 (k : Int) = k := by rw [u64_mod]; omega
 have h0 : 0 ≤ IntKind.wrap .u64 x := by rw [u64_mod]; omega
 rw [e]
 have h1 : 0 ≤ Int.tmod (IntKind.wrap .u64 x) (k : Int) := Int.tmod_nonneg _ h0
 have h2 : Int.tmod (IntKind.wrap .u64 x) (k : Int) < k := Int.tmod_lt_of_pos _ (by omega)
 refine ⟨(Int.tmod (IntKind.wrap .u64 x) (k : Int)).toNat, by omega, ?_⟩
 rw [wr_small (by omega) (by omega)]; omega
section
variable {H0 : Heap} {P F : List HP} [Sea] [SeaOpen] [SeaOk] [SeaLand] [SeaUndo] [SeaRedo] {n : Nat}
set_option linter.unusedSectionVars false
set_option linter.unusedSectionVars false
end
end Go.Proofs.YtbphjihgbenkdaaGreat.HQ
