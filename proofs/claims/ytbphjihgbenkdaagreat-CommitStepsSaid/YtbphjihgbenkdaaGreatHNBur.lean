/- One step of one of many commits, as a step of a state: walked. Conditions: none. -/
import Derived.Test.YtbphjihgbenkdaaGreatHNBuk
namespace Go.Proofs.YtbphjihgbenkdaaGreat.HN
open Go
def rAll {κ γ : Type} (r : κ → γ → HP) (_ : Nat) (xs : List (κ × γ)) : HP := Al (alls r xs)
section
variable {α κ γ : Type} {H0 : Heap} {P F : List HP} {r : κ → γ → HP} {xs : List (κ × γ)} {i u : Nat} {k : κ} {x x' : γ} {m : M α} {Q : α → List HP → Prop}
theorem Ent.allF : Ent (alls r xs ++ F) (own (rAll r) u xs :: F) := Ent.fold' fun _ h => h
theorem Ent.allO : Ent (own (rAll r) u xs :: F) (alls r xs ++ F) := Ent.app fun _ h => h
theorem Ent.out1 [f : Fnd P (rAll r) u xs F] (h : xs[i]? = some (k, x)) : Ent P (own r k x :: own (rAll r) u (xs.eraseIdx i) :: F) :=
 (Ent.perm f.p).trans (Ent.allO.trans ((Ent.out h).trans (Ent.head (fun _ q => q) Ent.allF)))
theorem Ent.inn1 {P' : List HP} (h : xs[i]? = some (k, x)) (e : Ent P (own r k x' :: own (rAll r) u (xs.eraseIdx i) :: P')) : Ent P (own (rAll r) u (xs.set i (k, x')) :: P') :=
 e.trans ((Ent.head (fun _ q => q) Ent.allO).trans ((Ent.inn h).trans Ent.allF))
theorem Ent.back1 {P' : List HP} (h : xs[i]? = some (k, x)) (e : Ent P (own r k x :: own (rAll r) u (xs.eraseIdx i) :: P')) : Ent P (own (rAll r) u xs :: P') :=
 e.trans ((Ent.head (fun _ q => q) Ent.allO).trans ((Ent.back' h).trans Ent.allF))
theorem Ent.snoc1 {P' : List HP} (e : Ent P (own r k x :: own (rAll r) u xs :: P')) : Ent P (own (rAll r) u (xs ++ [(k, x)]) :: P') :=
 e.trans ((Ent.head (fun _ q => q) Ent.allO).trans (alls_snoc.trans Ent.allF))
theorem Ent.all0 : Ent P (own (rAll r) u ([] : List (κ × γ)) :: P) := Ent.allF (xs := []) (F := P)
end
def rCM (c : Nat) (y : Int × Nat × Int) : HP := rC c (cmC y.1 y.2.1 y.2.2)
structure CSt where
 b : Nat
 f : Int
 tk : Tk
 v : Vw
 wi : Wi
 z : Nat
 D : Dk
abbrev wpP (b l p : Nat) (W : Wd) (s : CSt) (F : List HP) : List HP :=
 own rWd b { W with b := s.b, f := s.f } :: own rC W.t (tkC s.tk) :: own rView W.v s.v :: own rC W.w (wiC s.wi) :: own rC W.a (vaC ⟨p, l, 1⟩) :: own rC l (lgC ⟨p, 1, s.z⟩) :: own rDisk p s.D :: F
def stepS (T : Tri) (A : Ac) (i ph : Int) (s : CSt) : Int × Int × CSt :=
 if ph = 0 then
  if s.tk.free i = false then (10, 0, s)
  else if validB s.v T.rd = false then (9, 0, s)
  else (0, if T.df.length = 0 then 3 else 1, { s with tk := s.tk.lock i })
 else if ph = 1 then
  if 0 < s.f then
   if s.tk.sure i = true then (10, 1, { s with f := s.f - 1 }) else (7, 1, { s with f := s.f - 1, tk := s.tk.unlock i })
  else (0, 2, { s with z := s.z + ((redoL (s.b + 1) T.df).length + 7), D := s.D.app 1 (closeL (1 :: redoL (s.b + 1) T.df)) })
 else if ph = 2 then (0, 3, { s with D := s.D.sync })
 else if ph = 3 then (0, 4, { s with b := s.b + 1, tk := (s.tk.unlock i).drop i, v := if validB s.v T.rd = true then landT s.v T else s.v, wi := s.wi.send (A.o ++ A.l) })
 else (0, ph, s)
structure VwE (v : Vw) : Prop where
 p : VwP v
 t : ∀ (k : Nat) (l : Bs), v.texts[k]? = some l → l = []
structure TE (T : Tri) : Prop where
 ok : TOk vw0 T
theorem TE.cu {T : Tri} (h : TE T) : ∀ (k : Nat) (c : Int), T.cu[k]? = some c → c = 0 := by
 intro k c hc
 have h1 := h.ok.cr k c hc
 have hk : k < 3 := by have := (List.getElem?_eq_some_iff.1 hc).1; rw [h.ok.cu] at this; exact this
 have h2 := h.ok.cn k c (0, 0) [] hc (by match k, hk with | 0, _ => rfl | 1, _ => rfl | 2, _ => rfl) (by match k, hk with | 0, _ => rfl | 1, _ => rfl | 2, _ => rfl)
 simp at h2
 omega
theorem TE.at {T : Tri} {v : Vw} (h : TE T) (hv : VwE v) : TOk v T := by
 refine ⟨h.ok.rk, h.ok.rd, h.ok.dc, h.ok.df, h.ok.cu, h.ok.cr, fun k c x l hc hx hl => ?_, h.ok.fl, h.ok.d6⟩
 have h1 := h.cu k c hc
 have h2 := hv.t k l hl
 have h3 := hv.p.pl k x l hx hl
 subst h1 h2
 simp at h3 ⊢
 omega
theorem VwE.land {v : Vw} {T : Tri} (hv : VwE v) (h : TE T) : VwE (landT v T) := ⟨hv.p.land (h.at hv), hv.t⟩
theorem VwE.new : VwE vw0 := ⟨vw0P, fun k l h => by
 match k, h with
 | 0, h => cases h; rfl
 | 1, h => cases h; rfl
 | 2, h => cases h; rfl⟩
structure CInv (s : CSt) (k m : Nat) : Prop where
 v : VwE s.v
 c : 0 ≤ s.v.clock ∧ s.v.clock ≤ m
 wi : WiOk s.wi (2 * m)
 D : DOk' s.D
 dw : s.D.w.length ≤ 100 + m
 n1 : s.D.n1.length ≤ 100 + 294 * k
 z : s.z ≤ 100 + 294 * k
 b : s.b ≤ m
 f : 0 ≤ s.f ∧ s.f ≤ 9223372036854775807
def wrN (ph : Int) : Nat := if 2 ≤ ph then 1 else 0
theorem WiOk.le {x : Wi} {n m : Nat} (h : WiOk x n) (hn : n ≤ m) : WiOk x m := ⟨by have := h.h0; omega, by have := h.h1; omega, by have := h.h2; omega⟩
theorem WiOk.send {x : Wi} {n : Nat} (h : WiOk x n) (l : List (Int × UInt8)) : WiOk (x.send l) (n + l.length) := by
 unfold Wi.send
 induction l generalizing x n with
 | nil => exact h
 | cons o l ih =>
  have := ih (h.push (k := o.1) (b := [o.2]))
  refine WiOk.le this ?_
  simp; omega
theorem CInv.le {s : CSt} {k k' m m' : Nat} (h : CInv s k m) (hk : k ≤ k') (hm : m ≤ m') : CInv s k' m' :=
 ⟨h.v, ⟨h.c.1, by have := h.c.2; omega⟩, h.wi.le (by omega), h.D, by have := h.dw; omega, by have := h.n1; omega, by have := h.z; omega, by have := h.b; omega, h.f⟩
theorem CInv.step {s : CSt} {k m : Nat} {T : Tri} {A : Ac} {i ph : Int} (h : CInv s k m) (hT : TE T) (hA : A.o.length + A.l.length ≤ 2) (hk : k ≤ 30) (hm : m ≤ 100000) :
  CInv (stepS T A i ph s).2.2 (k + wrN (stepS T A i ph s).2.1 - wrN ph) (m + 1) := by
 unfold stepS
 by_cases c0 : ph = 0
 ·subst c0
  rw [if_pos rfl]
  have e0 : wrN 0 = 0 := rfl
  split
  ·exact h.le (by simp [e0]) (by omega)
  ·split
   ·exact h.le (by simp [e0]) (by omega)
   ·have := h.le (k' := k + wrN (if T.df.length = 0 then 3 else 1) - wrN 0) (m' := m + 1) (by simp [e0]) (by omega)
    exact ⟨this.v, this.c, this.wi, this.D, this.dw, this.n1, this.z, this.b, this.f⟩
 rw [if_neg c0]
 by_cases c1 : ph = 1
 ·subst c1
  rw [if_pos rfl]
  have e0 : wrN 1 = 0 := rfl
  have e2 : wrN 2 = 1 := rfl
  split
  ·next hf =>
   have q := h.le (k' := k + wrN 1 - wrN 1) (m' := m + 1) (by simp [e0]) (by omega)
   have hf2 : 0 ≤ s.f - 1 ∧ s.f - 1 ≤ 9223372036854775807 := by have := h.f; omega
   split
   ·exact ⟨q.v, q.c, q.wi, q.D, q.dw, q.n1, q.z, q.b, hf2⟩
   ·exact ⟨q.v, q.c, q.wi, q.D, q.dw, q.n1, q.z, q.b, hf2⟩
  ·have hb := h.b
   have hrl := redoL_len (n := s.b + 1) hT.ok.df hT.ok.fl (by omega)
   have hcl := closeL_len (1 :: redoL (s.b + 1) T.df)
   have q := h.le (k' := k + 1) (m' := m + 1) (by omega) (by omega)
   have h1 := h.n1
   have h2 := h.dw
   have h3 := h.z
   rw [List.length_cons] at hcl
   have hD : DOk' (s.D.app 1 (closeL (1 :: redoL (s.b + 1) T.df))) := h.D.app (Nat.le_refl 1) (by show (s.D.n1).length + _ ≤ _; omega) (by omega)
   show CInv _ (k + wrN 2 - wrN 1) (m + 1)
   rw [e0, e2]
   refine ⟨q.v, q.c, q.wi, hD, ?_, ?_, ?_, q.b, q.f⟩
   ·show (s.D.w ++ [_]).length ≤ _
    simp; omega
   ·show (s.D.n1 ++ _).length ≤ _
    rw [List.length_append]; omega
   ·show s.z + _ ≤ _
    omega
 rw [if_neg c1]
 by_cases c2 : ph = 2
 ·subst c2
  rw [if_pos rfl]
  have q := h.le (k' := k + wrN 3 - wrN 2) (m' := m + 1) (by simp [wrN]) (by omega)
  have e := h.D.sync_eq
  refine ⟨q.v, q.c, q.wi, h.D.sync, ?_, ?_, q.z, q.b, q.f⟩
  ·show s.D.sync.w.length ≤ _
   rw [e]; simp
  ·show s.D.sync.n1.length ≤ _
   rw [e]; exact q.n1
 rw [if_neg c2]
 by_cases c3 : ph = 3
 ·subst c3
  rw [if_pos rfl]
  have q := h.le (k' := k + wrN 4 - wrN 3) (m' := m + 1) (by simp [wrN]) (by omega)
  have hv : VwE (if validB s.v T.rd = true then landT s.v T else s.v) := by
   split
   ·exact h.v.land hT
   ·exact h.v
  have hc : 0 ≤ (if validB s.v T.rd = true then landT s.v T else s.v).clock ∧ (if validB s.v T.rd = true then landT s.v T else s.v).clock ≤ (m + 1 : Nat) := by
   have := h.c
   split
   ·show 0 ≤ s.v.clock + 1 ∧ s.v.clock + 1 ≤ _
    omega
   ·omega
  refine ⟨hv, hc, ?_, q.D, q.dw, q.n1, q.z, ?_, q.f⟩
  ·refine (h.wi.send (A.o ++ A.l)).le ?_
   simp; omega
  ·have := h.b
   show s.b + 1 ≤ _
   omega
 rw [if_neg c3]
 exact h.le (by simp) (by omega)
theorem acOf_len (x : TyA) : (acOf x).o.length + (acOf x).l.length ≤ 2 := by
 unfold acOf; simp only; split <;> simp
section
variable {H0 : Heap} {F : List HP} {Q : HV → List HP → Prop} [Sea] [SeaOk] [SeaLand] [SeaRedo] {n : Nat} {c a b l p k m : Nat} {W : Wd} {x : TrS} {A : Ac} {i ph : Int} {s : CSt}
theorem commit_stepS_v (hc : CInv s k m) (hk : k ≤ 6) (hm : m ≤ 10000) (hT : TE x.t) (hA : A.o.length + A.l.length ≤ 2) (hw : x.w = W.v) (hp : 0 ≤ ph ∧ ph ≤ 4)
  (h : Q (I (stepS x.t A i ph s).1) (own rC c (cmC i a (stepS x.t A i ph s).2.1) :: own rTry a x :: own rActs x.ac A :: wpP b l p W (stepS x.t A i ph s).2.2 F)) :
  Wp H0 (own rC c (cmC i a ph) :: own rTry a x :: own rActs x.ac A :: wpP b l p W s F) (f_commit_Commit_Step (lv (n + 2)) [.ptr (some (c, 0)), .ptr (some (b, 0))]) Q := by
 have ht := hT.at hc.v
 have hvv := hc.v.p
 have hcl := hc.c
 have hz := hc.z
 have hn := hc.n1
 have hbb := hc.b
 obtain rfl | rfl | rfl | rfl | rfl : ph = 0 ∨ ph = 1 ∨ ph = 2 ∨ ph = 3 ∨ ph = 4 := by omega
 ·refine Wp.cl ?_
  refine Wp.ent (P' := own rC c (cmC i a 0) :: own rWd b { W with b := s.b, f := s.f } :: own rC W.t (tkC s.tk) :: own rTry a x :: own rView x.w s.v :: own rActs x.ac A :: own rC W.w (wiC s.wi) :: own rC W.a (vaC ⟨p, l, 1⟩) :: own rC l (lgC ⟨p, 1, s.z⟩) :: own rDisk p s.D :: F)
   (by rw [hw]; exact .cons rfl (.cons rfl (.cons rfl (.cons rfl (.cons rfl (.cons rfl .refl)))))) ?_
  refine commit_Step_0 (i := i) (a := a) ?_
  unfold stepS at h
  rw [if_pos rfl] at h
  refine commit_check_v (w := { W with b := s.b, f := s.f }) (t := s.tk) (x := x) (v := s.v) hvv.ok ht.rk (fun e1 => ⟨10, rfl, ?_⟩) (fun e1 e2 => ⟨9, rfl, ?_⟩) (fun e1 e2 => ⟨0, rfl, ?_⟩)
  ·rw [if_pos e1] at h
   refine ⟨_, h, ?_⟩
   rw [hw]; exact .cons rfl (.cons rfl (.cons rfl (.cons rfl (.cons rfl (.cons rfl .refl)))))
  ·rw [if_neg (by rw [e1]; decide), if_pos e2] at h
   refine ⟨_, h, ?_⟩
   rw [hw]; exact .cons rfl (.cons rfl (.cons rfl (.cons rfl (.cons rfl (.cons rfl .refl)))))
  ·rw [if_neg (by rw [e1]; decide), if_neg (by rw [e2]; decide)] at h
   refine ⟨_, h, ?_⟩
   rw [hw]; exact .cons rfl (.cons rfl (.cons rfl (.cons rfl (.cons rfl (.cons rfl .refl)))))
 ·refine Wp.cl ?_
  refine Wp.ent (P' := own rC c (cmC i a 1) :: own rWd b { W with b := s.b, f := s.f } :: own rC W.t (tkC s.tk) :: own rC W.a (vaC ⟨p, l, 1⟩) :: own rC l (lgC ⟨p, 1, s.z⟩) :: own rDisk p s.D :: own rTry a x :: own rActs x.ac A :: own rView W.v s.v :: own rC W.w (wiC s.wi) :: F)
   (.cons rfl (.cons rfl (.cons rfl (.cons rfl (.cons rfl (.cons rfl (.cons rfl (.cons rfl (.cons rfl (.cons rfl .refl)))))))))) ?_
  refine commit_Step_1 (i := i) (a := a) ?_
  unfold stepS at h
  rw [if_neg (by decide), if_pos rfl] at h
  refine commit_write_v (w := { W with b := s.b, f := s.f }) (t := s.tk) (va := ⟨p, l, 1⟩) (l := ⟨p, 1, s.z⟩) (d := s.D) (x := x) hc.D (Nat.le_refl 1) (by show s.z ≤ 2048; omega) (by show s.D.n1.length ≤ _; omega) (by show s.b ≤ _; omega) hc.f ht.df ht.fl (fun e1 e2 => ⟨10, rfl, ?_⟩) (fun e1 e2 => ⟨7, rfl, ?_⟩) (fun e1 => ⟨0, rfl, ?_⟩)
  ·rw [if_pos e1, if_pos e2] at h
   refine ⟨_, h, .cons rfl (.cons rfl (.cons rfl (.cons rfl (.cons rfl (.cons rfl (.cons rfl (.cons rfl (.cons rfl (.cons rfl .refl)))))))))⟩
  ·rw [if_pos e1, if_neg (by rw [e2]; decide)] at h
   refine ⟨_, h, .cons rfl (.cons rfl (.cons rfl (.cons rfl (.cons rfl (.cons rfl (.cons rfl (.cons rfl (.cons rfl (.cons rfl .refl)))))))))⟩
  ·have e1 : s.f = 0 := e1
   rw [if_neg (by omega)] at h
   refine ⟨_, h, .cons rfl (.cons rfl (.cons rfl (.cons rfl (.cons rfl (.cons rfl (.cons rfl (.cons rfl (.cons rfl (.cons rfl .refl)))))))))⟩
 ·refine Wp.cl ?_
  refine Wp.ent (P' := own rC c (cmC i a 2) :: own rWd b { W with b := s.b, f := s.f } :: own rC W.a (vaC ⟨p, l, 1⟩) :: own rC l (lgC ⟨p, 1, s.z⟩) :: own rDisk p s.D :: own rC W.t (tkC s.tk) :: own rTry a x :: own rActs x.ac A :: own rView W.v s.v :: own rC W.w (wiC s.wi) :: F)
   (.cons rfl (.cons rfl (.cons rfl (.cons rfl (.cons rfl (.cons rfl (.cons rfl (.cons rfl (.cons rfl (.cons rfl .refl)))))))))) ?_
  unfold stepS at h
  rw [if_neg (by decide), if_neg (by decide), if_pos rfl] at h
  refine commit_Step_2 (w := { W with b := s.b, f := s.f }) (va := ⟨p, l, 1⟩) (l := ⟨p, 1, s.z⟩) (d := s.D) hc.D ?_
  exact ⟨_, h, .cons rfl (.cons rfl (.cons rfl (.cons rfl (.cons rfl (.cons rfl (.cons rfl (.cons rfl (.cons rfl (.cons rfl .refl)))))))))⟩
 ·refine Wp.cl ?_
  refine Wp.ent (P' := own rC c (cmC i a 3) :: own rWd b { W with b := s.b, f := s.f } :: own rC W.t (tkC s.tk) :: own rC W.w (wiC s.wi) :: own rTry a x :: own rActs x.ac A :: own rView x.w s.v :: own rC W.a (vaC ⟨p, l, 1⟩) :: own rC l (lgC ⟨p, 1, s.z⟩) :: own rDisk p s.D :: F)
   (by rw [hw]; exact .cons rfl (.cons rfl (.cons rfl (.cons rfl (.cons rfl (.cons rfl (.cons rfl .refl))))))) ?_
  refine commit_Step_3 (i := i) (a := a) ?_
  unfold stepS at h
  rw [if_neg (by decide), if_neg (by decide), if_neg (by decide), if_pos rfl] at h
  refine commit_land_v (m := 2 * m) (w := { W with b := s.b, f := s.f }) (t := s.tk) (x := x) (v := s.v) (wi := s.wi) (ac := A) hvv ht (by omega) hc.wi (by omega) (by omega) (by show s.b ≤ _; omega) ⟨0, rfl, ?_⟩
  refine ⟨_, h, ?_⟩
  rw [hw]
  exact .cons rfl (.cons rfl (.cons rfl (.cons rfl (.cons rfl (.cons rfl (.cons rfl (.cons rfl (.cons rfl (.cons rfl .refl)))))))))
 ·unfold stepS at h
  rw [if_neg (by decide), if_neg (by decide), if_neg (by decide), if_neg (by decide)] at h
  exact commit_Step_4 (i := i) (a := a) h
end
end Go.Proofs.YtbphjihgbenkdaaGreat.HN
namespace Go.Proofs.YtbphjihgbenkdaaGreat.HN
open Go
section
variable {H0 : Heap} {P F : List HP} {Q : HV → List HP → Prop} {D : HV → List HV → M HV}
theorem great_r {s : Sl} {xs : List TyA} [rr : RoR H0 s TyA tyC 7 xs] (h : Q (.bool (greatB xs)) P) : Wp H0 P (f_law22_great D [.sl s]) Q := by
 unfold f_law22_great
 have g := rr.len
 refine go ⟨fun c => ?_, fun c => ?_⟩
 ·have e : greatB xs = true := by unfold greatB; rw [decide_eq_true (by omega)]; rfl
  rw [e] at h; exact h
 ·have hl : xs.length ≤ 6 := by omega
  refine Wp.forL (σ := Unit) xs.length (by omega) (by omega) (fun _ i => [I i]) (out := fun _ => []) (fun _ _ => rfl) (fun i _ => (xs.take i).any TyA.great = false) (fun _ _ => P) () rfl rfl .refl ?_ ?_
  ·intro i _ hi hp
   have hx : xs[i]? = some xs[i] := List.getElem?_eq_getElem hi
   have hm : xs[i] ∈ xs := List.getElem_mem hi
   generalize xs[i] = x at hx hm
   have htk : (xs.take (i + 1)).any TyA.great = x.great := by
    rw [List.take_add_one, hx, List.any_append, hp]; simp
   have bad : x.great = true → Q (.bool true) P := fun e => by
    have : greatB xs = true := by
     unfold greatB
     have : xs.any TyA.great = true := List.any_eq_true.2 ⟨x, hm, e⟩
     rw [this]; simp
    rw [this] at h; exact h
   refine Wp.ixRo (x := x) rfl hx fun _ _ => ?_
   refine go ⟨fun c1 => ?_, fun c1 => ⟨fun c2 => ?_, fun c2 => ⟨fun c3 => ?_, fun c3 => ?_⟩⟩⟩
   ·exact bad (by unfold TyA.great; rw [decide_eq_true c1]; rfl)
   ·exact bad (by unfold TyA.great; rw [decide_eq_true c2]; simp)
   ·exact bad (by unfold TyA.great; rw [decide_eq_true c3]; simp)
   ·exact ⟨(), rfl, by rw [htk]; unfold TyA.great; rw [decide_eq_false c1, decide_eq_false c2, decide_eq_false c3]; rfl, .refl⟩
  ·intro _ hp
   rw [List.take_length] at hp
   refine go ?_
   have e : greatB xs = false := by unfold greatB; rw [hp, decide_eq_false (by omega)]; rfl
   rw [e] at h; exact h
end
section
variable {H0 : Heap} {P F : List HP} {Q : HV → List HP → Prop} [Sea] [SeaOk] [SeaUndo] {n : Nat}
omit [Sea] [SeaOk] [SeaUndo] in
theorem begEr {p a ac st : Nat} {T : Tri} {A : Ac} {s' : Sl} {w w2 : Wd} {v : Vw} {ts : List (Nat × (TrS × Ac))} {vp : Nat} (hw : w = w2) :
  Ent (own (rR ptC 1) s' (ts.map Prod.fst ++ [a]) :: own rActs ac A :: own rTry a ⟨vp, ac, st, T⟩ :: own rView vp v :: own rWd p w :: (alls rTA ts ++ F))
   (own (rR ptC 1) s' ((ts ++ [(a, ((⟨vp, ac, st, T⟩ : TrS), A))]).map Prod.fst) :: own rWd p w2 :: own rView vp v :: (alls rTA (ts ++ [(a, ((⟨vp, ac, st, T⟩ : TrS), A))]) ++ F)) := by
 subst hw
 refine Ent.trans (P' := own (rR ptC 1) s' (ts.map Prod.fst ++ [a]) :: own rWd p w :: own rView vp v :: own rTA a ((⟨vp, ac, st, T⟩ : TrS), A) :: (alls rTA ts ++ F)) ?_ ?_
 ·exact Ent.head (fun _ q => q) (.cons rfl (.cons rfl (.fold () trivial (.cons rfl (.cons rfl .refl)))))
 ·rw [List.map_append]
  exact Ent.head (fun _ q => q) (Ent.head (fun _ q => q) (Ent.head (fun _ q => q) alls_snoc))
theorem begun_r {p : Nat} {w : Wd} {v : Vw} {s : Sl} {xs : List TyA} {ls : TyA → List Dee} [rr : RoR H0 s TyA tyC 7 xs] (hr : ∀ x ∈ xs, RoR H0 x.s Dee deC 4 (ls x)) (hl : ∀ x ∈ xs, (ls x).length ≤ 1000000) (hx : xs.length ≤ 1000) (hv : VwP v)
  (h : ∀ s' ts, BegP v w.v ls xs ts → Q (.sl s') (own (rR ptC 1) s' (ts.map Prod.fst) :: own rWd p (wdsOf w xs) :: own rView w.v v :: own (rAll rTA) 0 ts :: F)) :
  Wp H0 (own rWd p w :: own rView w.v v :: F) (f_law22_begun (lv (n + 2)) [.ptr (some (p, 0)), .sl s]) Q := by
 refine Wp.cl ?_
 have hroom : room = 140737488355328 := rfl
 unfold f_law22_begun
 have g := rr.len
 refine Wp.nil ptC (sz := 1) (by decide) ?_
 refine go ?_
 refine Wp.forL (σ := Sl × List (Nat × (TrS × Ac))) xs.length (by omega) (by omega) (fun x i => [.sl x.1, I i]) (out := fun x => [.sl x.1]) (fun _ _ => rfl) (fun i x => BegP v w.v ls (xs.take i) x.2)
  (fun i x => own (rR ptC 1) x.1 (x.2.map Prod.fst) :: own rWd p (wdsOf w (xs.take i)) :: own rView w.v v :: (alls rTA x.2 ++ F)) (⟨none, 0, 0, none⟩, []) rfl ⟨rfl, fun j x e hj => by simp at hj⟩ .refl ?_ ?_
 ·rintro i ⟨sp, ts⟩ hi hp
  have hxi : xs[i]? = some xs[i] := List.getElem?_eq_getElem hi
  have hm : xs[i] ∈ xs := List.getElem_mem hi
  generalize xs[i] = x at hxi hm
  have hro := hr x hm
  refine Wp.ixRo (x := x) rfl hxi fun _ _ => ?_
  refine go ?_
  refine world_View_e (w := wdsOf w (xs.take i)) (vv := w.v) (wdsOf_v _ _) ?_
  refine go ?_
  refine attempt_New_v (v := v) (r := (0, 0, 0, 0)) fun a ac st => ?_
  refine go ?_
  refine Wp.ent (P' := own rC ac [.sl ⟨none, 0, 0, none⟩, .sl ⟨none, 0, 0, none⟩, .sl ⟨none, 0, 0, none⟩, .sl ⟨none, 0, 0, none⟩] :: own rTry a ⟨w.v, ac, st, tri0 v.clock (0, 0, 0, 0)⟩ :: own rView w.v v :: own (rR ptC 1) sp (ts.map Prod.fst) :: own rWd p (wdsOf w (xs.take i)) :: (alls rTA ts ++ F)) (.cons rfl (.cons rfl (.cons rfl (.weak (.pick (.cons rfl .refl)))))) ?_
  refine Wp.ent Ent.acts ?_
  refine Wp.ent (P' := own rTry a ⟨w.v, ac, st, tri0 v.clock (0, 0, 0, 0)⟩ :: own rView w.v v :: own rActs ac ⟨[], [], [], []⟩ :: own (rR ptC 1) sp (ts.map Prod.fst) :: own rWd p (wdsOf w (xs.take i)) :: (alls rTA ts ++ F)) (.cons rfl (.cons rfl .refl)) ?_
  refine deeds_v (n := n + 1) (y := ⟨w.v, ac, st, tri0 v.clock (0, 0, 0, 0)⟩) hv (tri0_ok hv) (hl x hm) ?_
  generalize hw1 : wdsOf w (xs.take i) = w1
  refine go ?_
  refine attempt_Acts_v (x := ⟨w.v, ac, st, dosT v (tri0 v.clock (0, 0, 0, 0)) (ls x)⟩) ?_
  refine go ?_
  refine acts_Send_v (a := ⟨[], [], [], []⟩) (by simp) fun _ => ?_
  refine go ?_
  refine attempt_Acts_v (x := ⟨w.v, ac, st, dosT v (tri0 v.clock (0, 0, 0, 0)) (ls x)⟩) ?_
  refine go ?_
  refine acts_Later_v (a := ⟨(acOf x).o, [], [], []⟩) (by simp) fun _ => ?_
  refine go ?_
  refine attempt_Acts_v (x := ⟨w.v, ac, st, dosT v (tri0 v.clock (0, 0, 0, 0)) (ls x)⟩) ?_
  refine go ?_
  refine acts_Note_v (a := ⟨(acOf x).o, (acOf x).l, [], []⟩) (by simp) ?_
  refine go ?_
  refine attempt_Acts_v (x := ⟨w.v, ac, st, dosT v (tri0 v.clock (0, 0, 0, 0)) (ls x)⟩) ?_
  refine go ?_
  refine acts_Opened_v (a := ⟨(acOf x).o, (acOf x).l, (acOf x).n, []⟩) (by simp) ?_
  show Wp H0 (own rActs ac (acOf x) :: own rTry a ⟨w.v, ac, st, dosT v (tri0 v.clock (0, 0, 0, 0)) (ls x)⟩ :: own rView w.v v :: own (rR ptC 1) sp (ts.map Prod.fst) :: own rWd p w1 :: (alls rTA ts ++ F)) _ _
  have htl : ts.length ≤ 1000 := by have := hp.1; simp at this; omega
  have hws : wdsOf w (xs.take (i + 1)) = wdOf w1 x := by rw [wdsOf_snoc hxi, hw1]
  refine go ⟨fun c => ?_, fun c => ?_⟩
  ·have hpl : (acOf x).p.length ≤ 1 := by unfold acOf; simp only; split <;> simp
   have hul : (undoL (acOf x).p).length ≤ 1 := by unfold undoL; simpa using hpl
   refine attempt_Acts_v (x := ⟨w.v, ac, st, dosT v (tri0 v.clock (0, 0, 0, 0)) (ls x)⟩) ?_
   refine go ?_
   refine acts_Undo_v (n := n) (a := acOf x) (by omega) fun s4 => ?_
   refine go ?_
   refine Wp.row (s := s4) fun q4 => ?_
   have g4 := q4.len
   refine Wp.forL (σ := Unit) (undoL (acOf x).p).length (by omega) (by omega) (fun _ i => [I i]) (out := fun _ => []) (fun _ _ => rfl) (fun _ _ => True)
    (fun j _ => own (rR opC 2) s4 (undoL (acOf x).p) :: own rActs ac (acOf x) :: own rTry a ⟨w.v, ac, st, dosT v (tri0 v.clock (0, 0, 0, 0)) (ls x)⟩ :: own rView w.v v :: own (rR ptC 1) sp (ts.map Prod.fst) :: own rWd p (w1.add (((undoL (acOf x).p).take j).map negO)) :: (alls rTA ts ++ F)) () rfl trivial .refl ?_ ?_
   ·intro j _ hj _
    have hxj : (undoL (acOf x).p)[j]? = some (undoL (acOf x).p)[j] := List.getElem?_eq_getElem hj
    generalize (undoL (acOf x).p)[j] = o at hxj
    have hadd : w1.add (((undoL (acOf x).p).take (j + 1)).map negO) = (w1.add (((undoL (acOf x).p).take j).map negO)).add [negO o] := by
     rw [List.take_add_one, hxj, List.map_append]
     unfold Wd.add
     rw [List.foldl_append]; rfl
    refine Wp.ixN (x := o) (f := opC) (s := s4) rfl hxj fun _ _ => ?_
    refine go fun b74 => ?_
    refine Wp.ent (Ent.row (b := b74) (f := opC) (sz := 2) (xs := [negO o]) (o := none) rfl (fun _ _ => rfl) (by decide) (by simp) (.inl rfl)) ?_
    refine world_Add_v (l := [negO o]) (by simp) ?_
    refine go ?_
    exact ⟨(), rfl, trivial, .pick (.pick (.pick (.pick (.pick (.cons hadd.symm (.weak .refl))))))⟩
   ·intro _ _
    rw [List.take_length]
    refine go ?_
    refine Wp.apd (x := a) rfl rfl (by simp; omega) (by simp; omega) fun s' => ?_
    refine go ?_
    refine ⟨(s', ts ++ [(a, ((⟨w.v, ac, st, dosT v (tri0 v.clock (0, 0, 0, 0)) (ls x)⟩ : TrS), acOf x))]), rfl, hp.snoc hxi ⟨rfl, rfl, rfl⟩, Ent.trans ?_ (begEr (w := w1.add ((undoL (acOf x).p).map negO)) hws.symm)⟩
    exact Ent.head (fun _ q => q) (.weak .refl)
  ·have c : ¬ (0 ≤ x.tally ∧ x.tally < 4) := by simpa using c
   have hw2 : w1 = wdsOf w (xs.take (i + 1)) := by
    rw [hws]; unfold wdOf acOf; simp only; rw [if_neg c]; rfl
   refine Wp.apd (x := a) rfl rfl (by simp; omega) (by simp; omega) fun s' => ?_
   refine go ?_
   exact ⟨(s', ts ++ [(a, ((⟨w.v, ac, st, dosT v (tri0 v.clock (0, 0, 0, 0)) (ls x)⟩ : TrS), acOf x))]), rfl, hp.snoc hxi ⟨rfl, rfl, rfl⟩, begEr hw2⟩
 ·rintro ⟨sp, ts⟩ hp
  rw [List.take_length] at hp ⊢
  refine go ?_
  exact ⟨_, h sp ts hp, Ent.head (fun _ q => q) (Ent.head (fun _ q => q) (Ent.head (fun _ q => q) Ent.allF))⟩
end
end Go.Proofs.YtbphjihgbenkdaaGreat.HN
namespace Go.Proofs.YtbphjihgbenkdaaGreat.HN
open Go
theorem Wp.ixRoC {α γ : Type} {H0 : Heap} {P : List HP} {Q : α → List HP → Prop} {s : Sl} {f : γ → List HV} {sz : Nat} {xs : List γ} {i : Int} {j k : Nat} {x : γ} {v : HV} {g : Nat → Nat → HV → M α} [r : RoR H0 s γ f sz xs] (hj : i = (j : Int)) (hi : xs[j]? = some x) (hv : (f x)[k]? = some v) (h : ∀ b o, Wp H0 P (g b o v) Q) : Wp H0 P (HN.ix s i sz fun b o => HN.ldC b (o + k) fun c => g b o c) Q := fun H hH => by
 subst hj
 have hr := SlR.keeps r.h hH.kp.k
 obtain ⟨b, o, cs, ro, h1, h2, h3, h4⟩ := hr.at (i := j) (l := f x) (by simp [hi])
 have hlt : j < xs.length := (List.getElem?_eq_some_iff.1 hi).1
 have hk := (List.getElem?_eq_some_iff.1 hv).1
 have hfl : (f x).length = sz := hr.szs _ (List.mem_map.2 ⟨x, List.mem_of_getElem? hi, rfl⟩)
 unfold ix
 refine wp_gd (by simp) (wp_gd (by rw [hr.len]; simp; omega) ?_)
 rw [h1, mP_eq']
 refine wp_of (m' := g b (o + (j : Int).toNat * sz) v) (fun n => ?_) (h _ _ H hH)
 show HN.ldC b (o + (j : Int).toNat * sz + k) (fun c => g b (o + (j : Int).toNat * sz) c) H n = _
 unfold HN.ldC
 simp only [h2]
 have : cs[o + (j : Int).toNat * sz + k]? = some v := by
  rw [← h4, List.getElem?_take, if_pos (by omega), List.getElem?_drop] at hv
  exact hv
 unfold HN.gx
 rw [this]
theorem Wp.eqM {α : Type} {H0 : Heap} {P : List HP} {Q : α → List HP → Prop} {sh : List Sc} {xs ys : List HV} {b : Bool} {f : Bool → M α} (he : eqSh sh xs ys = some b) (h : Wp H0 P (f b) Q) : Wp H0 P (HN.eqM sh xs ys f) Q := by
 unfold HN.eqM; rw [he]; exact h
abbrev c1 (x : Int × Int) : HV := I x.1
abbrev f2 (x : Fl × Int) : List HV := [.bool x.1.1, .str (S x.1.2)]
section
variable {H0 : Heap} {P F F' : List HP} {Q : HV → List HP → Prop} {D : HV → List HV → M HV}
end
def cst0 : CSt := ⟨0, 0, ⟨-1, false, -1⟩, vw0, ⟨[], [], []⟩, (natL 0).length + 8, dkS (natL 0)⟩
theorem cst0_inv : CInv cst0 0 0 := by
 have e0 : (natL 0).length = 1 := by rw [natL_lo (by decide)]; rfl
 refine ⟨.new, ⟨by decide, by decide⟩, ⟨by simp [cst0], by simp [cst0], by simp [cst0]⟩, dkS_ok (by omega), ?_, ?_, ?_, by decide, by decide⟩
 ·show (dkS (natL 0)).w.length ≤ _
  simp
 ·show (dkS (natL 0)).n1.length ≤ _
  show (stlL (natL 0)).length ≤ _
  unfold stlL
  rw [closeL_len, stlS_len, e0]; omega
 ·show (natL 0).length + 8 ≤ _
  omega
theorem wdsOf_rest' (xs : List TyA) : ∀ w : Wd, (wdsOf w xs).t = w.t ∧ (wdsOf w xs).ns = w.ns ∧ (wdsOf w xs).v = w.v ∧ (wdsOf w xs).w = w.w ∧ (wdsOf w xs).a = w.a ∧ (wdsOf w xs).b = w.b ∧ (wdsOf w xs).f = w.f := by
 induction xs with
 | nil => intro w; exact ⟨rfl, rfl, rfl, rfl, rfl, rfl, rfl⟩
 | cons x xs ih =>
  intro w
  have h := ih (wdOf w x)
  have e := Wd.add_rest ((undoL (acOf x).p).map negO) w
  show (wdsOf (wdOf w x) xs).t = w.t ∧ _
  exact ⟨h.1.trans e.1, h.2.1.trans e.2.1, h.2.2.1.trans e.2.2.1, h.2.2.2.1.trans e.2.2.2.1, h.2.2.2.2.1.trans e.2.2.2.2.1, h.2.2.2.2.2.1.trans e.2.2.2.2.2.1, h.2.2.2.2.2.2.trans e.2.2.2.2.2.2⟩
/-! tallies -/
def talE (w : Wd) (a : Int → Int) : Prop := w.t0 = a 0 ∧ w.t1 = a 1 ∧ w.t2 = a 2 ∧ w.t3 = a 3
theorem talE.one {w : Wd} {a : Int → Int} {o d : Int} (h : talE w a) (ha : ∀ k, -1000000000000000 ≤ a k ∧ a k ≤ 1000000000000000) (hd : -1000000000000000 ≤ d ∧ d ≤ 1000000000000000) (ho : 0 ≤ o ∧ o < 4) : talE (w.add1 (o, d)) (fun k => a k + if k = o then d else 0) := by
 obtain ⟨h0, h1, h2, h3⟩ := h
 have b0 := ha 0
 have b1 := ha 1
 have b2 := ha 2
 have b3 := ha 3
 have e0 := wr_small (n := w.t0 + d) (by omega) (by omega)
 have e1 := wr_small (n := w.t1 + d) (by omega) (by omega)
 have e2 := wr_small (n := w.t2 + d) (by omega) (by omega)
 have e3 := wr_small (n := w.t3 + d) (by omega) (by omega)
 rw [h0] at e0; rw [h1] at e1; rw [h2] at e2; rw [h3] at e3
 unfold Wd.add1 talE
 obtain rfl | rfl | rfl | rfl : o = 0 ∨ o = 1 ∨ o = 2 ∨ o = 3 := by omega
 ·simp [e0, h0, h1, h2, h3]
 ·simp [e1, h0, h1, h2, h3]
 ·simp [e2, h0, h1, h2, h3]
 ·simp [e3, h0, h1, h2, h3]
def talX (x : TyA) (k : Int) : Int := if (0 ≤ x.tally ∧ x.tally < 4) ∧ k = x.tally then x.delta else 0
theorem talE.eq {w : Wd} {a a' : Int → Int} (h : talE w a) (e : ∀ k, a k = a' k) : talE w a' := ⟨h.1.trans (e 0), h.2.1.trans (e 1), h.2.2.1.trans (e 2), h.2.2.2.trans (e 3)⟩
def okX (x : TyA) : Prop := -1099511627776 ≤ x.delta ∧ x.delta ≤ 1099511627776
theorem talE.done {w : Wd} {x : TyA} {a : Int → Int} (h : talE w a) (ha : ∀ k, -100000000000000 ≤ a k ∧ a k ≤ 100000000000000) (hx : okX x) : talE (wdOf w x) (fun k => a k + talX x k) := by
 obtain ⟨hx1, hx2⟩ := hx
 unfold wdOf acOf undoL
 by_cases c : 0 ≤ x.tally ∧ x.tally < 4
 ·simp only [if_pos c]
  have e1 := wr_small (n := 0 - x.delta) (by omega) (by omega)
  have e2 := wr_small (n := 0 - (0 - x.delta)) (by omega) (by omega)
  have e : ((List.map negO [(x.tally, x.delta)].reverse).map negO) = [(x.tally, x.delta)] := by
   simp only [List.reverse_cons, List.reverse_nil, List.nil_append, List.map_cons, List.map_nil, negO, e1, e2]
   rw [Int.sub_eq_add_neg, Int.zero_add, Int.sub_eq_add_neg, Int.zero_add, Int.neg_neg]
  rw [e]
  refine (h.one (o := x.tally) (d := x.delta) (fun k => by have := ha k; omega) (by omega) c).eq fun k => ?_
  unfold talX
  by_cases q : k = x.tally
  ·rw [if_pos q, if_pos ⟨c, q⟩]
  ·rw [if_neg q, if_neg (fun z => q z.2)]
 ·simp only [if_neg c]
  refine h.eq fun k => ?_
  unfold talX
  rw [if_neg (fun z => c z.1)]; omega
theorem talE.undo {w : Wd} {x : TyA} {a : Int → Int} {i : Int} (h : talE w a) (ha : ∀ k, -100000000000000 ≤ a k ∧ a k ≤ 100000000000000) (hx : okX x) : talE (w.undone i (acOf x)) (fun k => a k - talX x k) := by
 obtain ⟨hx1, hx2⟩ := hx
 unfold Wd.undone acOf undoL
 by_cases c : 0 ≤ x.tally ∧ x.tally < 4
 ·simp only [if_pos c]
  have e1 := wr_small (n := 0 - x.delta) (by omega) (by omega)
  have e : (List.map negO [(x.tally, x.delta)].reverse) = [(x.tally, 0 - x.delta)] := by
   simp only [List.reverse_cons, List.reverse_nil, List.nil_append, List.map_cons, List.map_nil, negO, e1]
  rw [e]
  suffices q : talE (w.add1 (x.tally, 0 - x.delta)) (fun k => a k - talX x k) from ⟨q.1, q.2.1, q.2.2.1, q.2.2.2⟩
  refine (h.one (o := x.tally) (d := 0 - x.delta) (fun k => by have := ha k; omega) (by omega) c).eq fun k => ?_
  unfold talX
  by_cases q : k = x.tally
  ·rw [if_pos q, if_pos ⟨c, q⟩]; omega
  ·rw [if_neg q, if_neg (fun z => q z.2)]; omega
 ·simp only [if_neg c]
  have q : talE w (fun k => a k - talX x k) := h.eq fun k => by
   unfold talX
   rw [if_neg (fun z => c z.1)]; omega
  exact ⟨q.1, q.2.1, q.2.2.1, q.2.2.2⟩
end Go.Proofs.YtbphjihgbenkdaaGreat.HN
namespace Go.Proofs.YtbphjihgbenkdaaGreat.HN
open Go
structure AB (s : CSt) (ph : Int) (m : Nat) : Prop where
 inv : CInv s (wrN ph) m
 ph : 0 ≤ ph ∧ ph ≤ 3
 v : s.v = vw0
 w : s.wi = ⟨[], [], []⟩
 b : s.b = 0
 h : s.tk.h = -1 ∨ s.tk.h = 0
 c : s.tk.c = -1 ∨ s.tk.c = 0
theorem AB.step {s : CSt} {ph : Int} {m : Nat} {T : Tri} {A : Ac} (h : AB s ph m) (hp : ph < 3) (hm : m ≤ 1000) (hT : TE T) (hA : A.o.length + A.l.length ≤ 2) : AB (stepS T A 0 ph s).2.2 (stepS T A 0 ph s).2.1 (m + 1) := by
 have hi := h.inv.step (A := A) (i := 0) (ph := ph) hT hA (by unfold wrN; split <;> omega) (by omega)
 have hk : wrN ph + wrN (stepS T A 0 ph s).2.1 - wrN ph = wrN (stepS T A 0 ph s).2.1 := by omega
 rw [hk] at hi
 obtain ⟨_, hph, hv, hw, hb, hh, hcc⟩ := h
 suffices q : (0 ≤ (stepS T A 0 ph s).2.1 ∧ (stepS T A 0 ph s).2.1 ≤ 3) ∧ (stepS T A 0 ph s).2.2.v = vw0 ∧ (stepS T A 0 ph s).2.2.wi = ⟨[], [], []⟩ ∧ (stepS T A 0 ph s).2.2.b = 0 ∧ ((stepS T A 0 ph s).2.2.tk.h = -1 ∨ (stepS T A 0 ph s).2.2.tk.h = 0) ∧ ((stepS T A 0 ph s).2.2.tk.c = -1 ∨ (stepS T A 0 ph s).2.2.tk.c = 0) from ⟨hi, q.1, q.2.1, q.2.2.1, q.2.2.2.1, q.2.2.2.2.1, q.2.2.2.2.2⟩
 clear hi hk
 obtain rfl | rfl | rfl : ph = 0 ∨ ph = 1 ∨ ph = 2 := by omega
 ·unfold stepS
  rw [if_pos rfl]
  split
  ·exact ⟨by simp, hv, hw, hb, hh, hcc⟩
  ·split
   ·exact ⟨by simp, hv, hw, hb, hh, hcc⟩
   ·refine ⟨by simp only; split <;> simp, hv, hw, hb, ?_, ?_⟩
    ·show (s.tk.lock 0).h = -1 ∨ _
     unfold Tk.lock; split <;> exact hh
    ·show (s.tk.lock 0).c = -1 ∨ (s.tk.lock 0).c = 0
     unfold Tk.lock; split
     ·exact .inr rfl
     ·exact hcc
 ·unfold stepS
  rw [if_neg (by decide), if_pos rfl]
  split
  ·split
   ·exact ⟨by simp, hv, hw, hb, hh, hcc⟩
   ·refine ⟨by simp, hv, hw, hb, ?_, ?_⟩
    ·show (s.tk.unlock 0).h = -1 ∨ _
     unfold Tk.unlock; split <;> exact hh
    ·show (s.tk.unlock 0).c = -1 ∨ (s.tk.unlock 0).c = 0
     unfold Tk.unlock; split
     ·exact .inl rfl
     ·exact hcc
  ·exact ⟨by simp, hv, hw, hb, hh, hcc⟩
 ·unfold stepS
  rw [if_neg (by decide), if_neg (by decide), if_pos rfl]
  exact ⟨by simp, hv, hw, hb, hh, hcc⟩
section
variable {H0 : Heap} {P F : List HP} [Sea] [SeaOpen] [SeaOk] [SeaLand] [SeaUndo] [SeaRedo] {n : Nat}
end
end Go.Proofs.YtbphjihgbenkdaaGreat.HN
namespace Go.Proofs.YtbphjihgbenkdaaGreat.HN
open Go
def wrote : List (Nat × (Int × Nat × Int)) → Nat
 | [] => 0
 | x :: l => wrN x.2.2.2 + wrote l
theorem wrote_le : ∀ l, wrote l ≤ l.length
 | [] => Nat.le_refl _
 | x :: l => by
  have := wrote_le l
  have h : wrN x.2.2.2 ≤ 1 := by unfold wrN; split <;> omega
  simp only [wrote, List.length_cons]; omega
theorem wrote_set : ∀ {l : List (Nat × (Int × Nat × Int))} {j : Nat} {x y : Nat × (Int × Nat × Int)}, l[j]? = some x → wrote (l.set j y) + wrN x.2.2.2 = wrote l + wrN y.2.2.2
 | [], j, x, y, h => by simp at h
 | z :: l, 0, x, y, h => by
  simp at h; subst h
  simp only [List.set_cons_zero, wrote]; omega
 | z :: l, j + 1, x, y, h => by
  have := wrote_set (y := y) (show l[j]? = some x by simpa using h)
  simp only [List.set_cons_succ, wrote]; omega
structure MI (ts : List (Nat × (TrS × Ac))) (cs : List Nat) (s : CSt) (cms : List (Nat × (Int × Nat × Int))) (m : Nat) : Prop where
 n : cms.length = ts.length
 c : cms.map Prod.fst = cs
 e : ∀ (j : Nat) (c : Nat) (i : Int) (a : Nat) (ph : Int) (t : Nat × (TrS × Ac)), cms[j]? = some (c, i, a, ph) → ts[j]? = some t → i = j ∧ a = t.1 ∧ 0 ≤ ph ∧ ph ≤ 4
 k : CInv s (wrote cms) m
theorem stepS_ph {T : Tri} {A : Ac} {i ph : Int} {s : CSt} (h : 0 ≤ ph ∧ ph ≤ 4) : 0 ≤ (stepS T A i ph s).2.1 ∧ (stepS T A i ph s).2.1 ≤ 4 := by
 unfold stepS
 split
 ·split
  ·simp
  ·split
   ·simp
   ·simp only; split <;> simp
 ·split
  ·split
   ·split <;> simp
   ·simp
  ·split
   ·simp
   ·split
    ·simp
    ·exact h
theorem set_fst {γ : Type} {l : List (Nat × γ)} {j c : Nat} {x y : γ} (h : l[j]? = some (c, x)) : (l.set j (c, y)).map Prod.fst = l.map Prod.fst := by
 rw [List.map_set]
 refine List.ext_getElem? fun k => ?_
 rw [List.getElem?_set]
 split
 ·rename_i e
  subst e
  split
  ·rw [List.getElem?_map, h]; rfl
  ·rename_i q
   rw [List.getElem?_eq_none (by omega)]
 ·rfl
theorem MI.step {ts : List (Nat × (TrS × Ac))} {cs : List Nat} {s : CSt} {cms : List (Nat × (Int × Nat × Int))} {m j c a : Nat} {i ph : Int} {y : TrS} {A : Ac} (h : MI ts cs s cms m) (hj : cms[j]? = some (c, i, a, ph)) (ht : ts[j]? = some (a, y, A))
  (hT : TE y.t) (hA : A.o.length + A.l.length ≤ 2) (hn : ts.length ≤ 6) (hm : m ≤ 10000) : MI ts cs (stepS y.t A i ph s).2.2 (cms.set j (c, i, a, (stepS y.t A i ph s).2.1)) (m + 1) := by
 have he := h.e j c i a ph _ hj ht
 have hw := wrote_le cms
 have hs := wrote_set (y := (c, i, a, (stepS y.t A i ph s).2.1)) hj
 simp only at hs
 refine ⟨by simp [h.n], by rw [set_fst hj, h.c], fun j' c' i' a' ph' t' h1 h2 => ?_, ?_⟩
 ·rw [List.getElem?_set] at h1
  split at h1
  ·rename_i q
   subst q
   split at h1
   ·rw [ht] at h2
    cases h1; cases h2
    exact ⟨he.1, he.2.1, stepS_ph he.2.2⟩
   ·cases h1
  ·exact h.e j' c' i' a' ph' t' h1 h2
 ·have := h.k.step (i := i) (ph := ph) hT hA (by rw [h.n] at hw; omega) (by omega)
  exact this.le (by omega) (Nat.le_refl _)
section
variable {H0 : Heap} {F : List HP} {Q : HV → List HP → Prop} [Sea] [SeaOk] [SeaLand] [SeaRedo] {n : Nat} {c a b l p m j : Nat} {W : Wd} {y : TrS} {A : Ac} {i ph : Int} {s : CSt}
 {ts : List (Nat × (TrS × Ac))} {cs : List Nat} {cms : List (Nat × (Int × Nat × Int))}
theorem mstep_v (h : MI ts cs s cms m) (hj : cms[j]? = some (c, i, a, ph)) (ht : ts[j]? = some (a, y, A)) (hT : TE y.t) (hA : A.o.length + A.l.length ≤ 2) (hn : ts.length ≤ 6) (hm : m ≤ 10000) (hw : y.w = W.v)
  (hq : Q (I (stepS y.t A i ph s).1) (own (rAll rTA) 0 ts :: own (rAll rCM) 0 (cms.set j (c, i, a, (stepS y.t A i ph s).2.1)) :: wpP b l p W (stepS y.t A i ph s).2.2 F)) :
  Wp H0 (own (rAll rTA) 0 ts :: own (rAll rCM) 0 cms :: wpP b l p W s F) (f_commit_Commit_Step (lv (n + 2)) [.ptr (some (c, 0)), .ptr (some (b, 0))]) Q := by
 have he := h.e j c i a ph _ hj ht
 have hwr := wrote_le cms
 refine Wp.cl ?_
 refine Wp.ent (Ent.out1 (r := rTA) (u := 0) ht) ?_
 refine Wp.open rTA a fun _ _ => ?_
 refine Wp.ent (Ent.out1 (r := rCM) (u := 0) hj) ?_
 refine Wp.ent (P' := own rC c (cmC i a ph) :: own rTry a y :: own rActs y.ac A :: wpP b l p W s (own (rAll rTA) 0 (ts.eraseIdx j) :: own (rAll rCM) 0 (cms.eraseIdx j) :: F))
  (Ent.head (fun _ q => q) (.cons rfl (.cons rfl (.pick (.pick (.pick (.pick (.pick (.pick (.pick (.cons rfl (.cons rfl .refl))))))))))))  ?_
 refine commit_stepS_v (k := wrote cms) (m := m) h.k (by rw [h.n] at hwr; omega) hm hT hA hw he.2.2 ?_
 exact ⟨_, hq, Ent.back1 ht (.fold () trivial (.cons rfl (.cons rfl (.cons rfl (Ent.inn1 hj (Ent.trans (P' := own rC c (cmC i a (stepS y.t A i ph s).2.1) :: own (rAll rCM) 0 (cms.eraseIdx j) :: wpP b l p W (stepS y.t A i ph s).2.2 F) (.cons rfl (.cons rfl .refl)) .refl))))))⟩
end
def refS (ph fl : Int) (free valid refuses sure : Bool) : Int × Int :=
 if ph = 0 then (if free = false then (10, 0) else if valid = false then (9, 0) else (0, if fl = 0 then 3 else 1))
 else if ph = 1 then (if refuses = true then (if sure = true then (10, 1) else (7, 1)) else (0, 2))
 else if ph = 2 then (0, 3) else if ph = 3 then (0, 4) else (0, ph)
theorem refS_eq {T : Tri} {A : Ac} {i ph : Int} {s : CSt} : refS ph T.df.length (s.tk.free i) (validB s.v T.rd) (decide (ph = 1) && decide (0 < s.f)) (s.tk.sure i) = ((stepS T A i ph s).1, (stepS T A i ph s).2.1) := by
 unfold refS stepS
 by_cases c0 : ph = 0
 ·rw [if_pos c0, if_pos c0]
  split
  ·rfl
  ·split
   ·rfl
   ·by_cases hd : T.df.length = 0
    ·rw [if_pos hd, if_pos (by omega)]
    ·rw [if_neg hd, if_neg (by omega)]
 rw [if_neg c0, if_neg c0]
 by_cases c1 : ph = 1
 ·rw [if_pos c1, if_pos c1]
  by_cases hf : 0 < s.f
  ·rw [if_pos hf, if_pos (by simp [c1, hf])]
   split <;> rfl
  ·rw [if_neg hf, if_neg (by simp [hf])]
 rw [if_neg c1, if_neg c1]
 by_cases c2 : ph = 2
 ·rw [if_pos c2, if_pos c2]
 rw [if_neg c2, if_neg c2]
 by_cases c3 : ph = 3
 ·rw [if_pos c3, if_pos c3]
 rw [if_neg c3, if_neg c3]
section
variable {H0 : Heap} {P F : List HP} {Q : HV → List HP → Prop} {D : DD}
theorem ref22_Step_v {q : Nat} {ph fl : Int} {b1 b2 b3 b4 : Bool} [fd : Fnd P rC q [I ph, I fl] F]
  (h : Q (I (refS ph fl b1 b2 b3 b4).1) (own rC q [I (refS ph fl b1 b2 b3 b4).2, I fl] :: F)) : Wp H0 P (f_ref22_Commit_Step D [.ptr (some (q, 0)), .bool b1, .bool b2, .bool b3, .bool b4]) Q := by
 refine Wp.cl ?_
 unfold f_ref22_Commit_Step
 unfold refS at h
 refine go ⟨fun c0 => ⟨fun c1 => ?_, fun c1 => ⟨fun c2 => ?_, fun c2 => ⟨fun c3 => ?_, fun c3 => ?_⟩⟩⟩, fun c0 => ⟨fun c1 => ?_, fun c1 => ?_⟩⟩
 ·rw [if_pos c0, if_pos c1] at h
  exact ⟨_, h, .cons (by rw [c0]) .refl⟩
 ·rw [if_pos c0, if_neg (by simp [c1]), if_pos c2] at h
  exact ⟨_, h, .cons (by rw [c0]) .refl⟩
 ·rw [if_pos c0, if_neg (by simp [c1]), if_neg (by simp [c2]), if_pos c3] at h
  exact ⟨_, h, .refl⟩
 ·rw [if_pos c0, if_neg (by simp [c1]), if_neg (by simp [c2]), if_neg c3] at h
  exact ⟨_, h, .refl⟩
 ·rw [if_neg c0, if_pos c1] at h
  cases b3 with
  | true =>
   rw [if_pos rfl] at h
   refine ⟨fun _ => ⟨fun q => ?_, fun q => ⟨fun _ => ?_, fun q => (by cases q)⟩⟩, fun q => (by cases q)⟩
   ·rw [if_pos q] at h
    exact ⟨_, h, .cons (by rw [c1]) .refl⟩
   ·rw [if_neg (by simp [q])] at h
    exact ⟨_, h, .cons (by rw [c1]) .refl⟩
  | false =>
   rw [if_neg (by decide)] at h
   refine ⟨fun q => (by cases q), fun _ => ?_⟩
   exact go ⟨_, h, .refl⟩
 ·rw [if_neg c0, if_neg c1] at h
  refine go ⟨fun c2 => ?_, fun c2 => ⟨fun c3 => ?_, fun c3 => ?_⟩⟩
  ·rw [if_pos c2] at h
   exact ⟨_, h, .refl⟩
  ·rw [if_neg c2, if_pos c3] at h
   exact ⟨_, h, .refl⟩
  ·rw [if_neg c2, if_neg c3] at h
   exact ⟨_, h, .cons rfl .refl⟩
end
end Go.Proofs.YtbphjihgbenkdaaGreat.HN
namespace Go.Proofs.YtbphjihgbenkdaaGreat.HN
open Go
theorem Ent.all0' {κ γ : Type} {P P' : List HP} {r : κ → γ → HP} {u : Nat} (e : Ent P P') : Ent P (own (rAll r) u ([] : List (κ × γ)) :: P') := e.trans Ent.all0
theorem great_all {xs : List TyA} {ls : TyA → List Dee} {H0 : Heap} (hr : ∀ x ∈ xs, RoR H0 x.s Dee deC 4 (ls x)) (c : greatB xs = false) : xs.length ≤ 6 ∧ (∀ x ∈ xs, (ls x).length ≤ 20) ∧ ∀ x ∈ xs, okX x := by
 unfold greatB TyA.great at c
 simp at c
 refine ⟨by omega, fun x hx => ?_, fun x hx => ?_⟩
 ·have h1 := c.2 x hx
  have h2 := (hr x hx).len
  omega
 ·have h1 := c.2 x hx
  exact ⟨by omega, by omega⟩
theorem begun_all {ts : List (Nat × (TrS × Ac))} {xs : List TyA} {ls : TyA → List Dee} {vp : Nat} (hts : BegP vw0 vp ls xs ts) : ∀ (j : Nat) (e : Nat × (TrS × Ac)), ts[j]? = some e → ∃ x, xs[j]? = some x ∧ e.2.1.w = vp ∧ TE e.2.1.t ∧ e.2.2 = acOf x ∧ e.2.1.t = dosT vw0 (tri0 vw0.clock (0, 0, 0, 0)) (ls x) := fun j e he => by
 have hj := (List.getElem?_eq_some_iff.1 he).1
 rw [hts.1] at hj
 obtain ⟨x, hx⟩ : ∃ x, xs[j]? = some x := ⟨_, List.getElem?_eq_getElem hj⟩
 obtain ⟨u0, u1, u2⟩ := hts.2 j x e hx he
 exact ⟨x, hx, u0, ⟨by rw [u1]; exact dosT_ok vw0P (tri0_ok vw0P)⟩, u2, u1⟩
def rWN (q : Nat) (y : Int × Int) : HP := rC q [I y.1, I y.2]
theorem Wp.outW {α : Type} {H0 : Heap} {P F : List HP} {m : M α} {Q : α → List HP → Prop} {ws : List (Nat × (Int × Int))} {i q : Nat} {y1 y2 : Int} [f : Fnd P (rAll rWN) 0 ws F] (h : ws[i]? = some (q, y1, y2)) (k : Wp H0 (own rC q [I y1, I y2] :: own (rAll rWN) 0 (ws.eraseIdx i) :: F) m Q) : Wp H0 P m Q := Wp.ent (Ent.out1 (r := rWN) (u := 0) h) k
theorem Ent.backW {P P' : List HP} {ws : List (Nat × (Int × Int))} {i q : Nat} {y1 y2 : Int} (h : ws[i]? = some (q, y1, y2)) (e : Ent P (own rC q [I y1, I y2] :: own (rAll rWN) 0 (ws.eraseIdx i) :: P')) : Ent P (own (rAll rWN) 0 ws :: P') := Ent.back1 (r := rWN) h e
theorem Ent.innW {P P' : List HP} {ws : List (Nat × (Int × Int))} {i q : Nat} {y1 y2 z1 z2 : Int} (h : ws[i]? = some (q, y1, y2)) (e : Ent P (own rC q [I z1, I z2] :: own (rAll rWN) 0 (ws.eraseIdx i) :: P')) : Ent P (own (rAll rWN) 0 (ws.set i (q, z1, z2)) :: P') := Ent.inn1 (r := rWN) h e
theorem Wp.outC {α : Type} {H0 : Heap} {P F : List HP} {m : M α} {Q : α → List HP → Prop} {cms : List (Nat × (Int × Nat × Int))} {i c a : Nat} {j ph : Int} [f : Fnd P (rAll rCM) 0 cms F] (h : cms[i]? = some (c, j, a, ph)) (k : Wp H0 (own rC c (cmC j a ph) :: own (rAll rCM) 0 (cms.eraseIdx i) :: F) m Q) : Wp H0 P m Q := Wp.ent (Ent.out1 (r := rCM) (u := 0) h) k
theorem Ent.backC {P P' : List HP} {cms : List (Nat × (Int × Nat × Int))} {i c a : Nat} {j ph : Int} (h : cms[i]? = some (c, j, a, ph)) (e : Ent P (own rC c (cmC j a ph) :: own (rAll rCM) 0 (cms.eraseIdx i) :: P')) : Ent P (own (rAll rCM) 0 cms :: P') := Ent.back1 (r := rCM) h e
theorem flat_ptr : ∀ l : List Nat, (l.map ptC).flatten = l.map fun p => HV.ptr (some (p, 0))
 | [] => rfl
 | a :: l => by simp [flat_ptr l]
theorem flatP {l : List Nat} {ext : List HV} {j q : Nat} (h : l[j]? = some q) : ((l.map ptC).flatten ++ ext)[j * 1]? = some (.ptr (some (q, 0))) := by
 have hj := (List.getElem?_eq_some_iff.1 h).1
 rw [flat_ptr, List.getElem?_append_left (by simpa using hj), Nat.mul_one, List.getElem?_map, h]; rfl
theorem stepS_f {T : Tri} {A : Ac} {i ph : Int} {s : CSt} : (stepS T A i ph s).2.2.f = if (decide (ph = 1) && decide (0 < s.f)) = true then s.f - 1 else s.f := by
 unfold stepS
 by_cases c0 : ph = 0
 ·have e : (decide (ph = 1) && decide (0 < s.f)) = false := by simp [c0]
  rw [e, if_pos c0]
  split
  ·rfl
  ·split <;> rfl
 rw [if_neg c0]
 by_cases c1 : ph = 1
 ·rw [if_pos c1]
  by_cases hf : 0 < s.f
  ·have e : (decide (ph = 1) && decide (0 < s.f)) = true := by simp [c1, hf]
   rw [if_pos hf, e]
   split <;> rfl
  ·have e : (decide (ph = 1) && decide (0 < s.f)) = false := by simp [hf]
   rw [if_neg hf, e]; rfl
 have e : (decide (ph = 1) && decide (0 < s.f)) = false := by simp [c1]
 rw [if_neg c1, e]
 split
 ·rfl
 ·split <;> rfl
theorem stepS_7 {T : Tri} {A : Ac} {i ph : Int} {s : CSt} (hi : 0 ≤ i) (h : (stepS T A i ph s).1 = 7) : (stepS T A i ph s).2.2.tk.c ≠ i := by
 unfold stepS at h ⊢
 by_cases c0 : ph = 0
 ·rw [if_pos c0] at h
  split at h
  ·cases h
  ·split at h <;> cases h
 rw [if_neg c0] at h ⊢
 by_cases c1 : ph = 1
 ·rw [if_pos c1] at h ⊢
  by_cases hf : 0 < s.f
  ·rw [if_pos hf] at h ⊢
   split at h
   ·cases h
   ·rename_i hs
    rw [if_neg hs]
    show (s.tk.unlock i).c ≠ i
    unfold Tk.unlock
    split
    ·show (-1 : Int) ≠ i
     omega
    ·rename_i q
     exact fun e => q ⟨hi, e⟩
  ·rw [if_neg hf] at h; cases h
 rw [if_neg c1] at h
 split at h
 ·cases h
 ·split at h <;> cases h
theorem u64_mod (y : Int) : IntKind.wrap .u64 y = y % 18446744073709551616 := by
 unfold IntKind.wrap
 rw [show IntKind.u64.signed = false from rfl, show (2 ^ IntKind.u64.bits : Int) = 18446744073709551616 from rfl]
 simp
theorem rem_ok {x : Int} {k : Nat} (hk : 0 < k) (hk2 : k ≤ 1000) : ∃ j : Nat, j < k ∧ wr (Int.tmod (IntKind.wrap .u64 x) (IntKind.wrap .u64 (k : Int))) = (j : Int) := by
 have e : IntKind.wrap .u64 (k : Int) = k := by rw [u64_mod]; omega
 have h0 : 0 ≤ IntKind.wrap .u64 x := by rw [u64_mod]; omega
 rw [e]
 have h1 : 0 ≤ Int.tmod (IntKind.wrap .u64 x) (k : Int) := Int.tmod_nonneg _ h0
 have h2 : Int.tmod (IntKind.wrap .u64 x) (k : Int) < k := Int.tmod_lt_of_pos _ (by omega)
 refine ⟨(Int.tmod (IntKind.wrap .u64 x) (k : Int)).toNat, by omega, ?_⟩
 rw [wr_small (by omega) (by omega)]; omega
section
variable {H0 : Heap} {P F : List HP} [Sea] [SeaOpen] [SeaOk] [SeaLand] [SeaUndo] [SeaRedo] {n : Nat}
set_option linter.unusedSectionVars false
theorem mvalid_v {Q : HV → List HP → Prop} {D : DD} {F1 F2 : List HP} {ts : List (Nat × (TrS × Ac))} {j a pv : Nat} {y : TrS} {A : Ac} {v : Vw} [f1 : Fnd P (rAll rTA) 0 ts F1] [f2 : Fnd F1 rView pv v F2] (ht : ts[j]? = some (a, y, A)) (hv : VwE v) (hT : TE y.t) (hw : y.w = pv)
  (h : Q (.bool (validB v y.t.rd)) P) : Wp H0 P (f_attempt_Attempt_Valid D [.ptr (some (a, 0))]) Q := by
 subst hw
 refine Wp.cl ?_
 refine Wp.ent (Ent.out1 (r := rTA) (u := 0) ht) ?_
 refine Wp.open rTA a fun _ _ => ?_
 refine attempt_Valid_v (x := y) (v := v) hv.p.ok (hT.at hv).rk ?_
 exact ⟨_, h, Ent.trans (P' := own (rAll rTA) 0 ts :: F1) (Ent.back1 ht (.fold () trivial (.cons rfl (.cons rfl (.cons rfl .refl))))) (Ent.perm f1.p.symm)⟩
theorem commit_Step_nil {Q : HV → List HP → Prop} {D : DD} {x : Option (Nat × Nat)} (h : Q (I 2) P) : Wp H0 P (f_commit_Commit_Step D [.ptr none, .ptr x]) Q := by
 unfold f_commit_Commit_Step; exact go h
theorem commit_Step_nil2 {Q : HV → List HP → Prop} {D : DD} {c : Nat} (h : Q (I 2) P) : Wp H0 P (f_commit_Commit_Step D [.ptr (some (c, 0)), .ptr none]) Q := by
 unfold f_commit_Commit_Step; exact go h
theorem commit_Phase_nil {Q : HV → List HP → Prop} {D : DD} (h : Q (I 0) P) : Wp H0 P (f_commit_Commit_Phase D [.ptr none]) Q := by
 unfold f_commit_Commit_Phase; exact go h
theorem commit_Decided_nil {Q : HV → List HP → Prop} {D : DD} (h : Q (.bool false) P) : Wp H0 P (f_commit_Commit_Decided D [.ptr none]) Q := by
 unfold f_commit_Commit_Decided; exact go h
theorem commit_New_neg {Q : HV → List HP → Prop} {D : DD} {a : Nat} (h : Q (.ptr none) P) : Wp H0 P (f_commit_New D [I (-1), .ptr (some (a, 0))]) Q := by
 unfold f_commit_New; exact go ⟨fun _ => h, fun c => absurd c (by decide)⟩
theorem commit_New_nil {Q : HV → List HP → Prop} {D : DD} (h : Q (.ptr none) P) : Wp H0 P (f_commit_New D [I 0, .ptr none]) Q := by
 unfold f_commit_New; exact go h
theorem commit_Abort_nil {Q : HV → List HP → Prop} {D : DD} {a : Nat} (h : Q (.sl ⟨none, 0, 0, none⟩) P) : Wp H0 P (f_commit_Abort D [.ptr none, I 0, .ptr (some (a, 0))]) Q := by
 unfold f_commit_Abort; exact go h
theorem commit_Abort_nil2 {Q : HV → List HP → Prop} {D : DD} {b : Nat} (h : Q (.sl ⟨none, 0, 0, none⟩) P) : Wp H0 P (f_commit_Abort D [.ptr (some (b, 0)), I 0, .ptr none]) Q := by
 unfold f_commit_Abort; exact go h
set_option linter.unusedSectionVars false
theorem law22_CommitSteps_v {s s1 : Sl} {xs : List TyA} {ls : TyA → List Dee} {steps : List Int} {k sr : Int} [rr : RoR H0 s TyA tyC 7 xs] [r1 : RoR H0 s1 Int iiC 1 steps] (hr : ∀ x ∈ xs, RoR H0 x.s Dee deC 4 (ls x)) (hk : k ≤ 9223372036854775807) :
    Wp H0 [] (f_law22_CommitSteps (lv (n + 3)) [.sl s, .sl s1, I k, I sr]) (fun a _ => a = .bool true) := by
  unfold f_law22_CommitSteps
  have g0 := rr.len
  have g1 := r1.len
  refine go ?_
  refine alive_v (n := n) ?_
  refine go ?_
  refine great_r (xs := xs) ?_
  refine go ⟨fun _ => rfl, fun c => ⟨fun _ => rfl, fun c2 => ⟨fun _ => rfl, fun c3 => ?_⟩⟩⟩
  have hc := great_all hr c
  refine disk_New_v fun p => ?_
  refine go ?_
  refine world_Open_e (n := n) fun b vw wi tk va l => ?_
  refine go ?_
  refine begun_r (n := n + 1) (w := ⟨vw, wi, tk, p, va, 0, 0, 0, 0, [], 0, 0⟩) (v := vw0) (xs := xs) (ls := ls) hr (fun x hx => Nat.le_trans (hc.2.1 x hx) (by decide)) (by omega) vw0P fun s' ts hts => ?_
  have hw := wdsOf_rest' xs ⟨vw, wi, tk, p, va, 0, 0, 0, 0, [], 0, 0⟩
  generalize wdsOf ⟨vw, wi, tk, p, va, 0, 0, 0, 0, [], 0, 0⟩ xs = W at hw
  obtain ⟨W1, W2, W3, W4, W5, t0, t1, t2, t3, ns, W6, W7⟩ := W
  simp only at hw
  obtain ⟨rfl, rfl, rfl, rfl, rfl, rfl, rfl⟩ := hw
  have hall := begun_all hts
  have hln : ts.length = xs.length := hts.1
  have hne : 0 < xs.length := by rw [← g0]; omega
  have hl6 : xs.length ≤ 6 := hc.1
  have hroom : room = 140737488355328 := rfl
  refine go ?_
  let W : Wd := ⟨W1, W2, W3, W4, W5, t0, t1, t2, t3, [], 0, 0⟩
  refine Wp.ent (P' := own (rR ptC 1) s' (ts.map Prod.fst) :: own (rAll rTA) 0 ts :: wpP b l p W cst0 []) (.cons rfl (.cons rfl (.cons rfl (.cons rfl (.cons rfl (.cons rfl (.cons rfl (.cons rfl (.cons rfl .tail))))))))) ?_
  refine Wp.row (s := s') fun qs => ?_
  have hsl := qs.len
  rw [List.length_map] at hsl
  refine Wp.nil ptC (sz := 1) (by decide) ?_
  refine Wp.nil ptC (sz := 1) (by decide) ?_
  refine Wp.forL (σ := (Sl × Sl) × List (Nat × (Int × Nat × Int)) × List (Nat × (Int × Int))) ts.length (by omega) (by omega) (fun x i => [.sl x.1.1, .sl x.1.2, I i]) (out := fun x => [.sl x.1.1, .sl x.1.2]) (fun _ _ => rfl)
    (fun i x => x.2.1.length = i ∧ x.2.2.length = i ∧ ∀ (j : Nat) (t : Nat × (TrS × Ac)), j < i → ts[j]? = some t → (∃ c, x.2.1[j]? = some (c, (j : Int), t.1, 0)) ∧ ∃ q, x.2.2[j]? = some (q, 0, (t.2.1.t.df.length : Int)))
    (fun i x => own (rR ptC 1) x.1.1 (x.2.1.map Prod.fst) :: own (rR ptC 1) x.1.2 (x.2.2.map Prod.fst) :: own (rAll rCM) 0 x.2.1 :: own (rAll rWN) 0 x.2.2 :: own (rR ptC 1) s' (ts.map Prod.fst) :: own (rAll rTA) 0 ts :: wpP b l p W cst0 [])
    ((⟨none, 0, 0, none⟩, ⟨none, 0, 0, none⟩), [], []) rfl ⟨rfl, rfl, fun j t hj => by omega⟩ ?_ ?_ ?_
  · exact .cons rfl (.cons rfl (Ent.all0' (Ent.all0' .refl)))
  · rintro i ⟨⟨sc, sq⟩, cms, ws⟩ hi ⟨h1, h2, h3⟩
    simp only at h1 h2 h3
    obtain ⟨⟨ai, yi, Ai⟩, hi0⟩ : ∃ e, ts[i]? = some e := ⟨_, List.getElem?_eq_getElem hi⟩
    refine Wp.ixC0 (s := s') (j := i) (x := ai) rfl (by rw [List.getElem?_map, hi0]; rfl) rfl fun _ _ => ?_
    refine go ?_
    refine Wp.ent (Ent.out1 (r := rTA) (u := 0) hi0) ?_
    refine Wp.open rTA ai fun _ _ => ?_
    refine attempt_Writes_v (x := yi) ?_
    refine go ?_
    refine commit_New_v (a := ai) (by omega) fun c => ?_
    refine go ?_
    refine Wp.apd (x := c) rfl rfl (by simp; omega) (by simp; omega) fun s2 => ?_
    refine go fun b71 => ?_
    refine Wp.apd (s := sq) (x := b71) rfl rfl (by simp; omega) (by simp; omega) fun s3 => ?_
    refine go ?_
    refine ⟨((s2, s3), cms ++ [(c, (i : Int), ai, 0)], ws ++ [(b71, 0, (yi.t.df.length : Int))]), rfl, ⟨by simp [h1], by simp [h2], fun j t hj ht => ?_⟩, ?_⟩
    · by_cases e : j = i
      · subst e
        rw [hi0] at ht
        cases ht
        refine ⟨⟨c, ?_⟩, b71, ?_⟩
        · show (cms ++ _)[j]? = _
          rw [List.getElem?_append_right (by omega), h1, Nat.sub_self]; rfl
        · show (ws ++ _)[j]? = _
          rw [List.getElem?_append_right (by omega), h2, Nat.sub_self]; rfl
      · obtain ⟨⟨c', e1⟩, q', e2⟩ := h3 j t (by omega) ht
        refine ⟨⟨c', ?_⟩, q', ?_⟩
        · show (cms ++ _)[j]? = _
          rw [List.getElem?_append_left (by omega)]; exact e1
        · show (ws ++ _)[j]? = _
          rw [List.getElem?_append_left (by omega)]; exact e2
    · refine Ent.trans (P' := own (rR ptC 1) s2 ((cms ++ [(c, (i : Int), ai, (0 : Int))]).map Prod.fst) :: own (rR ptC 1) s3 ((ws ++ [(b71, (0 : Int), (yi.t.df.length : Int))]).map Prod.fst) :: own rCM c ((i : Int), ai, (0 : Int)) :: own (rAll rCM) 0 cms :: own rWN b71 ((0 : Int), (yi.t.df.length : Int)) :: own (rAll rWN) 0 ws :: own (rR ptC 1) s' (ts.map Prod.fst) :: own (rAll rTA) 0 ts :: wpP b l p W cst0 []) ?_ ?_
      · refine .cons (by simp) (.cons (by simp) ?_)
        refine Ent.trans (P' := own rC c (cmC i ai 0) :: own (rAll rCM) 0 cms :: own rC b71 [I 0, I yi.t.df.length] :: own (rAll rWN) 0 ws :: own (rR ptC 1) s' (ts.map Prod.fst) :: own (rAll rTA) 0 ts :: wpP b l p W cst0 []) (.cons rfl (.cons rfl (.cons rfl (.cons rfl (.cons rfl (Ent.back1 hi0 (.fold () trivial (.cons rfl (.cons rfl (.cons rfl .refl)))))))))) .refl
      · exact .cons rfl (.cons rfl (Ent.snoc1 (.cons rfl (.cons rfl (Ent.snoc1 (.cons rfl (.cons rfl .refl)))))))
  · rintro ⟨⟨sc, sq⟩, cms, ws⟩ ⟨h1, h2, h3⟩
    simp only at h1 h2 h3
    refine go ?_
    let f0 : Int := if 0 > k then 0 else k
    have hf0 : 0 ≤ f0 ∧ f0 ≤ 9223372036854775807 := by
      have e : f0 = if 0 > k then 0 else k := rfl
      rw [e]; split <;> omega
    refine world_Fail_v (w := W) ?_
    refine Wp.jn (Wp.mono (Q' := fun lf P' => (∃ bb : Bool, lf = .norm [.bool bb]) ∧ P' = own (rR ptC 1) sc (cms.map Prod.fst) :: own (rR ptC 1) sq (ws.map Prod.fst) :: own (rAll rCM) 0 cms :: own (rAll rWN) 0 ws :: own (rR ptC 1) s' (ts.map Prod.fst) :: own (rAll rTA) 0 ts :: wpP b l p W { cst0 with f := f0 } []) (Wp.cl ?_) ?_)
    · have en : Ent (own rWd b { W with f := f0 } :: own (rR ptC 1) sc (cms.map Prod.fst) :: own (rR ptC 1) sq (ws.map Prod.fst) :: own (rAll rCM) 0 cms :: own (rAll rWN) 0 ws :: own (rR ptC 1) s' (ts.map Prod.fst) :: own (rAll rTA) 0 ts :: own rC W.t (tkC cst0.tk) :: own rView W.v cst0.v :: own rC W.w (wiC cst0.wi) :: own rC W.a (vaC ⟨p, l, 1⟩) :: own rC l (lgC ⟨p, 1, cst0.z⟩) :: own rDisk p cst0.D :: [])
          (own (rR ptC 1) sc (cms.map Prod.fst) :: own (rR ptC 1) sq (ws.map Prod.fst) :: own (rAll rCM) 0 cms :: own (rAll rWN) 0 ws :: own (rR ptC 1) s' (ts.map Prod.fst) :: own (rAll rTA) 0 ts :: wpP b l p W { cst0 with f := f0 } []) :=
        .cons rfl (.cons rfl (.cons rfl (.cons rfl (.cons rfl (.cons rfl (.cons rfl .refl))))))
      refine go ⟨fun _ => ?_, fun _ => ?_⟩
      · exact Wp.ret ⟨_, ⟨⟨_, rfl⟩, rfl⟩, en⟩
      · exact Wp.ret ⟨_, ⟨⟨_, rfl⟩, rfl⟩, en⟩
    rintro lf P' ⟨⟨bb, rfl⟩, rfl⟩
    refine Wp.jn (Wp.mono (Q' := fun lf P' => lf = .norm [] ∧ ∃ T : Tk, P' = own (rR ptC 1) sc (cms.map Prod.fst) :: own (rR ptC 1) sq (ws.map Prod.fst) :: own (rAll rCM) 0 cms :: own (rAll rWN) 0 ws :: own (rR ptC 1) s' (ts.map Prod.fst) :: own (rAll rTA) 0 ts :: wpP b l p W { cst0 with f := f0, tk := T } []) (Wp.cl ?_) ?_)
    · refine go ⟨fun _ => ?_, fun _ => ?_⟩
      · refine world_Token_e (w := { W with f := f0 }) (tt := W3) rfl ?_
        refine go ?_
        refine token_Take_v (t := cst0.tk) ?_
        refine go ?_
        exact Wp.ret ⟨_, ⟨rfl, cst0.tk.take sr false, rfl⟩, .cons rfl (.cons rfl (.cons rfl (.cons rfl (.cons rfl (.cons rfl (.cons rfl (.cons rfl (.cons rfl (.cons rfl (.cons rfl (.cons rfl (.cons rfl .refl))))))))))))⟩
      · exact Wp.ret ⟨_, ⟨rfl, cst0.tk, rfl⟩, .refl⟩
    rintro lf P' ⟨rfl, T, rfl⟩
    have hmi : MI ts (cms.map Prod.fst) { cst0 with f := f0, tk := T } cms 0 := by
      refine ⟨h1, rfl, fun j c i a ph t e1 e2 => ?_, ?_⟩
      · have hj := (List.getElem?_eq_some_iff.1 e1).1
        obtain ⟨⟨c', q⟩, _⟩ := h3 j t (by omega) e2
        rw [e1] at q
        cases q
        exact ⟨rfl, rfl, by decide, by decide⟩
      · have := cst0_inv.le (k' := wrote cms) (m' := 0) (by omega) (by omega)
        exact ⟨this.v, this.c, this.wi, this.D, this.dw, this.n1, this.z, this.b, hf0⟩
    have hqs : ∀ (j : Nat) (t : Nat × (TrS × Ac)), ts[j]? = some t → ∃ q c, ws[j]? = some (q, 0, (t.2.1.t.df.length : Int)) ∧ cms[j]? = some (c, (j : Int), t.1, 0) := fun j t e => by
      have hj := (List.getElem?_eq_some_iff.1 e).1
      obtain ⟨⟨c, e1⟩, q, e2⟩ := h3 j t hj e
      exact ⟨q, c, e2, e1⟩
    have hsf : ({ cst0 with f := f0, tk := T } : CSt).f = bif decide (0 > k) then 0 else k := by
      show (if 0 > k then 0 else k) = _
      by_cases q : 0 > k
      · rw [if_pos q, decide_eq_true q]; rfl
      · rw [if_neg q, decide_eq_false q]; rfl
    generalize { cst0 with f := f0, tk := T } = st0 at hmi hsf
    clear h3
    refine Wp.unrow (s := s') (xs := ts.map Prod.fst) (f := ptC) (sz := 1) (by intro q; have := congrArg List.length q; simp only [List.length_map, List.length_nil] at this; omega) fun bt ext1 hbt hbl => ?_
    refine Wp.unrow (s := sq) (xs := ws.map Prod.fst) (f := ptC) (sz := 1) (by intro q; have := congrArg List.length q; simp only [List.length_map, List.length_nil] at this; omega) fun bw ext2 hbw hwl => ?_
    refine Wp.unrow (s := sc) (xs := cms.map Prod.fst) (f := ptC) (sz := 1) (by intro q; have := congrArg List.length q; simp only [List.length_map, List.length_nil] at this; omega) fun bc ext3 hbc hcl => ?_
    refine go ?_
    rw [← hsf]
    generalize hC0 : cms.map Prod.fst = C0 at hmi
    generalize hQ0 : ws.map Prod.fst = Q0
    let L : CSt × List (Nat × (Int × Nat × Int)) × List (Nat × (Int × Int)) → List HP := fun x => own rC bw ((Q0.map ptC).flatten ++ ext2) :: own rC bt (((ts.map Prod.fst).map ptC).flatten ++ ext1) :: own rC bc ((C0.map ptC).flatten ++ ext3) :: own (rAll rCM) 0 x.2.1 :: own (rAll rWN) 0 x.2.2 :: own (rAll rTA) 0 ts :: wpP b l p W x.1 []
    refine Wp.forL (σ := CSt × List (Nat × (Int × Nat × Int)) × List (Nat × (Int × Int))) steps.length (by omega) (by omega) (fun x i => [I x.1.f, I i]) (out := fun _ => []) (fun _ _ => rfl)
      (fun i x => MI ts C0 x.1 x.2.1 i ∧ x.2.2.map Prod.fst = Q0 ∧ ∀ (j : Nat) (t : Nat × (TrS × Ac)) (c : Nat) (e : Int × Nat × Int) (q : Nat) (y : Int × Int), ts[j]? = some t → x.2.1[j]? = some (c, e) → x.2.2[j]? = some (q, y) → y = (e.2.2, (t.2.1.t.df.length : Int)))
      (fun i x => L x) (st0, cms, ws) rfl ⟨hmi, hQ0, fun j t c e q y e1 e2 e3 => ?_⟩ ?_ ?_ ?_
    · obtain ⟨q', c', e4, e5⟩ := hqs j t e1
      rw [e2] at e5
      rw [e3] at e4
      cases e4; cases e5; rfl
    · exact .cons rfl (.cons rfl (.cons rfl (.cons rfl (.cons rfl (.cons rfl .refl)))))
    · rintro i ⟨st, cms, ws⟩ hi ⟨hm, hq, hy⟩
      simp only at hm hq hy
      obtain ⟨z, hz⟩ : ∃ z, steps[i]? = some z := ⟨_, List.getElem?_eq_getElem hi⟩
      refine Wp.ixRoC (x := z) (k := 0) rfl hz rfl fun _ _ => ?_
      obtain ⟨j, hj, ej⟩ := rem_ok (x := z) (k := s.len) (by omega) (by omega)
      have hwn : (ws.map Prod.fst).length = ts.length := by rw [hq, ← hQ0, List.length_map, h2]
      rw [List.length_map] at hwn
      obtain ⟨⟨a, y, A⟩, ht⟩ : ∃ e, ts[j]? = some e := ⟨_, List.getElem?_eq_getElem (by omega)⟩
      obtain ⟨⟨c, ij, aj, ph⟩, hcj⟩ : ∃ e, cms[j]? = some e := ⟨_, List.getElem?_eq_getElem (by rw [hm.n]; omega)⟩
      obtain ⟨⟨q, y1, y2⟩, hwj⟩ : ∃ e, ws[j]? = some e := ⟨_, List.getElem?_eq_getElem (by omega)⟩
      have hyy := hy j _ _ _ _ _ ht hcj hwj
      simp only at hyy
      cases hyy
      obtain ⟨e1, e2, e3⟩ := hm.e j _ _ _ _ _ hcj ht
      simp only at e2
      subst e1 e2
      have hQj : Q0[j]? = some q := by rw [← hq, List.getElem?_map, hwj]; rfl
      have hCj : C0[j]? = some c := by rw [← hm.c, List.getElem?_map, hcj]; rfl
      have hTj : (ts.map Prod.fst)[j]? = some aj := by rw [List.getElem?_map, ht]; rfl
      have hcl2 : sc.len = ts.length := by rw [hcl, ← h1, ← List.length_map (f := Prod.fst), hC0]
      have hwl2 : sq.len = ts.length := by rw [hwl, List.length_map]; exact h2
      obtain ⟨x0, hx0, hyw, hTE, hA0, _⟩ := hall j _ ht
      simp only at hyw hTE hA0
      have hA : A.o.length + A.l.length ≤ 2 := by rw [hA0]; exact acOf_len x0
      refine go ⟨?_, ?_⟩
      · rw [u64_mod]
        first
          | omega
          | (simp; omega)
      rw [ej]
      refine fun k0 w0 k1 w1 => ?_
      refine world_Token_e (w := { W with b := st.b, f := st.f }) (tt := W3) rfl ?_
      refine go fun k2 w2 k3 w3 => ?_
      refine token_Free_v (t := st.tk) ?_
      refine go fun k4 w4 k5 w5 k6 w6 => ?_
      refine Wp.ixb (s := s') (j := j) rfl (by omega) hbt ?_
      refine go fun k7 w7 => ?_
      refine Wp.ldC (b := bt) (v := .ptr (some (aj, 0))) (flatP hTj) ?_
      refine go fun k8 w8 => ?_
      refine mvalid_v (v := st.v) ht hm.k.v hTE hyw ?_
      refine go fun k9 w9 k10 w10 => ?_
      refine world_Token_e (w := { W with b := st.b, f := st.f }) (tt := W3) rfl ?_
      refine go fun k11 w11 k12 w12 => ⟨⟨⟨Was.eq w12 w11, Was.eq w11 w10, Was.eq w10 w9, Was.eq w9 w8, Was.eq w8 w7, Was.eq w7 w6, Was.eq w6 w5, Was.eq w5 w4, Was.eq w4 w3, Was.eq w3 w2, Was.eq w2 w1, Was.eq w1 w0, trivial⟩, trivial⟩, ?_⟩
      refine token_Sure_v (t := st.tk) ?_
      refine Wp.jn (Wp.mono (Q' := fun lf P' => lf = .norm [.bool (decide (ph = 1) && decide (0 < st.f))] ∧ P' = L (st, cms, ws)) ?_ ?_)
      · refine Wp.cl ?_
        refine Wp.outW hwj ?_
        refine Wp.ixb (s := sq) (j := j) rfl (by omega) hbw ?_
        refine Wp.ldC (b := bw) (v := .ptr (some (q, 0))) (flatP hQj) ?_
        have en : Ent (own rC q [I ph, I (y.t.df.length : Int)] :: own (rAll rWN) 0 (ws.eraseIdx j) :: own rC bw ((Q0.map ptC).flatten ++ ext2) :: own rC bt (((ts.map Prod.fst).map ptC).flatten ++ ext1) :: own rC bc ((C0.map ptC).flatten ++ ext3) :: own (rAll rCM) 0 cms :: own (rAll rTA) 0 ts :: wpP b l p W st []) (L (st, cms, ws)) :=
          .cons rfl (.cons rfl (.cons rfl (.cons rfl (Ent.backW hwj (.cons rfl (.cons rfl .refl))))))
        refine go ⟨fun c5 => ?_, fun c5 => ?_⟩
        · exact Wp.ret ⟨_, ⟨by rw [decide_eq_true c5]; rfl, rfl⟩, en⟩
        · exact Wp.ret ⟨_, ⟨by rw [decide_eq_false c5]; rfl, rfl⟩, en⟩
      rintro lf P' ⟨rfl, rfl⟩
      refine Wp.jn (Wp.mono (Q' := fun lf P' => lf = .norm [I (stepS y.t A j ph st).2.2.f] ∧ P' = L (st, cms, ws)) ?_ ?_)
      · have hfr := hm.k.f
        rw [stepS_f]
        refine go ⟨fun c5 => ?_, fun c5 => ?_⟩
        · exact Wp.ret ⟨by rw [if_pos c5]; simp only [Bool.and_eq_true, decide_eq_true_eq] at c5; rw [wr_small (by show _ ≤ st.f - 1; omega) (by show st.f - 1 ≤ _; omega)], rfl⟩
        · exact Wp.ret ⟨by rw [if_neg (by rw [c5]; decide)], rfl⟩
      rintro lf P' ⟨rfl, rfl⟩
      refine go ?_
      refine Wp.ixb (s := sc) (j := j) rfl (by omega) hbc ?_
      refine Wp.ldC (b := bc) (v := .ptr (some (c, 0))) (flatP hCj) ?_
      refine go ?_
      refine Wp.ent (P' := own (rAll rTA) 0 ts :: own (rAll rCM) 0 cms :: wpP b l p W st (own rC bw ((Q0.map ptC).flatten ++ ext2) :: own rC bt (((ts.map Prod.fst).map ptC).flatten ++ ext1) :: own rC bc ((C0.map ptC).flatten ++ ext3) :: own (rAll rWN) 0 ws :: []))
        (.cons rfl (.cons rfl (.cons rfl (.cons rfl (.cons rfl (.cons rfl (.cons rfl (.cons rfl (.cons rfl (.cons rfl (.cons rfl (.cons rfl (.cons rfl .refl))))))))))))) ?_
      refine mstep_v (n := n + 1) hm hcj ht hTE hA (by omega) (by omega) hyw ?_
      have hm2 := hm.step hcj ht hTE hA (by omega) (by omega)
      have h7 := stepS_7 (T := y.t) (A := A) (ph := ph) (s := st) (i := (j : Int)) (by omega)
      have href := refS_eq (T := y.t) (A := A) (i := (j : Int)) (ph := ph) (s := st)
      have hcj2 : (cms.set j (c, (j : Int), aj, (stepS y.t A j ph st).2.1))[j]? = some (c, (j : Int), aj, (stepS y.t A j ph st).2.1) := by
        rw [List.getElem?_set, if_pos rfl, if_pos (List.getElem?_eq_some_iff.1 hcj).1]
      generalize stepS y.t A j ph st = R at hm2 h7 href hcj2
      obtain ⟨er, ph2, st2⟩ := R
      simp only at hm2 h7 href hcj2
      generalize hcms2 : cms.set j (c, (j : Int), aj, ph2) = cms2 at hm2 hcj2
      refine Wp.jn (Wp.mono (Q' := fun lf P' => lf = .norm [.bool false] ∧ P' = L (st2, cms2, ws.set j (q, ph2, (y.t.df.length : Int)))) (Wp.cl ?_) ?_)
      · refine Wp.outW hwj ?_
        refine Wp.outC hcj2 ?_
        refine go fun k13 w13 k14 w14 k15 w15 k16 w16 => ?_
        refine Wp.ixb (s := sq) (j := j) rfl (by omega) hbw ?_
        refine go fun k17 w17 => ?_
        refine Wp.ldC (b := bw) (v := .ptr (some (q, 0))) (flatP hQj) ?_
        refine go fun k18 w18 k19 w19 k20 w20 k21 w21 k22 w22 => ?_
        refine ref22_Step_v (ph := ph) (fl := (y.t.df.length : Int)) ?_
        rw [href]
        refine go fun k23 w23 k24 w24 k25 w25 k54 w54 k55 w55 => ?_
        refine Wp.ixb (s := sc) (j := j) rfl (by omega) hbc ?_
        refine go fun k56 w56 => ?_
        refine Wp.ldC (b := bc) (v := .ptr (some (c, 0))) (flatP hCj) ?_
        refine go fun k57 w57 => ?_
        refine commit_Phase_v (i := (j : Int)) (a := aj) (ph := ph2) ?_
        refine go fun k58 w58 k59 w59 k60 w60 => ?_
        refine Wp.ixb (s := sq) (j := j) rfl (by omega) hbw ?_
        refine go fun k61 w61 => ?_
        refine Wp.ldC (b := bw) (v := .ptr (some (q, 0))) (flatP hQj) ?_
        refine go fun k62 w62 k63 w63 k64 w64 k65 w65 k66 w66 k67 w67 k68 w68 k82 w82 k83 w83 => ?_
        refine Wp.ixb (s := sc) (j := j) rfl (by omega) hbc ?_
        refine go fun k84 w84 => ?_
        refine Wp.ldC (b := bc) (v := .ptr (some (c, 0))) (flatP hCj) ?_
        refine go fun k85 w85 => ?_
        refine commit_Decided_v (i := (j : Int)) (a := aj) (ph := ph2) ?_
        refine go fun k86 w86 k87 w87 k88 w88 => ?_
        refine Wp.ixb (s := sq) (j := j) rfl (by omega) hbw ?_
        refine go fun k89 w89 => ?_
        refine Wp.ldC (b := bw) (v := .ptr (some (q, 0))) (flatP hQj) ?_
        refine go fun k90 w90 k91 w91 k92 w92 k93 w93 k94 w94 => ⟨⟨⟨Was.eq w94 w93, Was.eq w93 w92, Was.eq w92 w91, Was.eq w91 w90, Was.eq w90 w89, Was.eq w89 w88, Was.eq w88 w87, Was.eq w87 w86, Was.eq w86 w85, Was.eq w85 w84, Was.eq w84 w83, Was.eq w83 w82, Was.eq w82 w68, Was.eq w68 w67, Was.eq w67 w66, Was.eq w66 w65, Was.eq w65 w64, Was.eq w64 w63, Was.eq w63 w62, Was.eq w62 w61, Was.eq w61 w60, Was.eq w60 w59, Was.eq w59 w58, Was.eq w58 w57, Was.eq w57 w56, Was.eq w56 w55, Was.eq w55 w54, Was.eq w54 w25, Was.eq w25 w24, Was.eq w24 w23, trivial⟩, ⟨Was.eq w94 w93, Was.eq w93 w92, Was.eq w92 w91, Was.eq w91 w90, Was.eq w90 w89, Was.eq w89 w88, Was.eq w88 w87, Was.eq w87 w86, Was.eq w86 w85, Was.eq w85 w84, Was.eq w84 w83, Was.eq w83 w82, Was.eq w82 w68, Was.eq w68 w67, Was.eq w67 w66, Was.eq w66 w65, Was.eq w65 w64, Was.eq w64 w63, Was.eq w63 w62, Was.eq w62 w61, Was.eq w61 w60, Was.eq w60 w59, Was.eq w59 w58, Was.eq w58 w57, Was.eq w57 w56, Was.eq w56 w55, Was.eq w55 w54, Was.eq w54 w25, Was.eq w25 w24, Was.eq w24 w23, trivial⟩, ⟨Was.eq w94 w93, Was.eq w93 w92, Was.eq w92 w91, Was.eq w91 w90, Was.eq w90 w89, Was.eq w89 w88, Was.eq w88 w87, Was.eq w87 w86, Was.eq w86 w85, Was.eq w85 w84, Was.eq w84 w83, Was.eq w83 w82, Was.eq w82 w68, Was.eq w68 w67, Was.eq w67 w66, Was.eq w66 w65, Was.eq w65 w64, Was.eq w64 w63, Was.eq w63 w62, Was.eq w62 w61, Was.eq w61 w60, Was.eq w60 w59, Was.eq w59 w58, trivial⟩, ⟨Was.eq w94 w93, Was.eq w93 w92, Was.eq w92 w91, Was.eq w91 w90, Was.eq w90 w89, Was.eq w89 w88, Was.eq w88 w87, Was.eq w87 w86, Was.eq w86 w85, Was.eq w85 w84, Was.eq w84 w83, Was.eq w83 w82, Was.eq w82 w68, Was.eq w68 w67, Was.eq w67 w66, Was.eq w66 w65, Was.eq w65 w64, Was.eq w64 w63, Was.eq w63 w62, Was.eq w62 w61, Was.eq w61 w60, Was.eq w60 w59, Was.eq w59 w58, trivial⟩, trivial⟩, ?_⟩
        exact Wp.ret ⟨_, ⟨by simp, rfl⟩, .cons rfl (.cons rfl (.cons rfl (Ent.backC hcj2 (.cons rfl (.cons rfl (Ent.innW hwj (.cons rfl (.cons rfl (.cons rfl .refl)))))))))⟩
      rintro lf P' ⟨rfl, rfl⟩
      have hwj2 : (ws.set j (q, ph2, (y.t.df.length : Int)))[j]? = some (q, ph2, (y.t.df.length : Int)) := by
        rw [List.getElem?_set, if_pos rfl, if_pos (List.getElem?_eq_some_iff.1 hwj).1]
      refine go ⟨fun c7 => ?_, fun c7 => ?_⟩
      · refine Wp.ixb (s := sq) (j := j) rfl (by omega) hbw ?_
        refine Wp.ldC (b := bw) (v := .ptr (some (q, 0))) (flatP hQj) ?_
        refine Wp.outW hwj2 ?_
        refine go ?_
        refine world_Token_e (w := { W with b := st2.b, f := st2.f }) (tt := W3) rfl ?_
        refine go ?_
        refine token_Commits_v (t := st2.tk) ?_
        refine go ?_
        have := h7 c7
        simp [this]
      · refine ⟨(st2, cms2, ws.set j (q, ph2, (y.t.df.length : Int))), rfl, ⟨hm2, ?_, ?_⟩, .refl⟩
        · show (ws.set j _).map Prod.fst = _
          rw [set_fst hwj, hq]
        · intro j' t' c' e' q' z' g1 g2 g3
          have g2 : cms2[j']? = some (c', e') := g2
          have g3 : (ws.set j (q, ph2, (y.t.df.length : Int)))[j']? = some (q', z') := g3
          by_cases q : j' = j
          · subst q
            rw [ht] at g1
            rw [hcj2] at g2
            rw [hwj2] at g3
            cases g1; cases g2; cases g3; rfl
          · rw [← hcms2, List.getElem?_set, if_neg (fun z => q z.symm)] at g2
            rw [List.getElem?_set, if_neg (fun z => q z.symm)] at g3
            exact hy j' t' c' e' q' z' g1 g2 g3
    · rintro ⟨st, cms, ws⟩ ⟨hm, hq, hy⟩
      simp only at hm hq hy
      obtain ⟨⟨a, y, A⟩, ht⟩ : ∃ e, ts[0]? = some e := ⟨_, List.getElem?_eq_getElem (by omega)⟩
      obtain ⟨⟨c, i0, a0, ph⟩, hcj⟩ : ∃ e, cms[0]? = some e := ⟨_, List.getElem?_eq_getElem (by rw [hm.n]; omega)⟩
      have hC0 : C0[0]? = some c := by rw [← hm.c, List.getElem?_map, hcj]; rfl
      have hT0 : (ts.map Prod.fst)[0]? = some a := by rw [List.getElem?_map, ht]; rfl
      have hcl2 : sc.len = ts.length := by rw [hcl, List.length_map]; exact h1
      refine go ?_
      refine commit_Step_nil ?_
      refine go ?_
      refine Wp.ixb (s := sc) (j := 0) rfl (by omega) hbc ?_
      refine Wp.ldC (b := bc) (v := .ptr (some (c, 0))) (flatP hC0) ?_
      refine go ?_
      refine commit_Step_nil2 ?_
      refine go ?_
      refine commit_Phase_nil ?_
      refine go ?_
      refine commit_Decided_nil ?_
      refine go ?_
      refine Wp.ixb (s := s') (j := 0) rfl (by omega) hbt ?_
      refine Wp.ldC (b := bt) (v := .ptr (some (a, 0))) (flatP hT0) ?_
      refine go ?_
      refine commit_New_neg ?_
      refine go ?_
      refine commit_New_nil ?_
      refine go ?_
      refine Wp.ixb (s := s') (j := 0) rfl (by omega) hbt ?_
      refine Wp.ldC (b := bt) (v := .ptr (some (a, 0))) (flatP hT0) ?_
      refine go ?_
      refine commit_Abort_nil ?_
      refine go ?_
      refine commit_Abort_nil2 ?_
      exact go rfl
end
end Go.Proofs.YtbphjihgbenkdaaGreat.HN
