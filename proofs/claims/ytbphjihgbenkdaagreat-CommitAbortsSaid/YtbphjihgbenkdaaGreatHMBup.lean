/- One step of one of many commits, as a step of a state: walked. Conditions: none. -/
import Derived.Test.YtbphjihgbenkdaaGreatHMBuj
namespace Go.Proofs.YtbphjihgbenkdaaGreat.HM
open Go
def rAll {κ γ : Type} (r : κ → γ → HP) (_ : Nat) (xs : List (κ × γ)) : HP := Al (alls r xs)
section
variable {α κ γ : Type} {H0 : Heap} {P F : List HP} {r : κ → γ → HP} {xs : List (κ × γ)} {i u : Nat} {k : κ} {x x' : γ} {m : M α} {Q : α → List HP → Prop}
theorem Ent.allF : Ent (alls r xs ++ F) (own (rAll r) u xs :: F) := Ent.fold' fun _ h => h
theorem Ent.allO : Ent (own (rAll r) u xs :: F) (alls r xs ++ F) := Ent.app fun _ h => h
theorem Ent.out1 [f : Fnd P (rAll r) u xs F] (h : xs[i]? = some (k, x)) : Ent P (own r k x :: own (rAll r) u (xs.eraseIdx i) :: F) :=
 (Ent.perm f.p).trans (Ent.allO.trans ((Ent.out h).trans (Ent.head (fun _ q => q) Ent.allF)))
theorem Ent.back1 {P' : List HP} (h : xs[i]? = some (k, x)) (e : Ent P (own r k x :: own (rAll r) u (xs.eraseIdx i) :: P')) : Ent P (own (rAll r) u xs :: P') :=
 e.trans ((Ent.head (fun _ q => q) Ent.allO).trans ((Ent.back' h).trans Ent.allF))
end
structure CSt where
 b : Nat
 f : Int
 tk : Tk
 v : Vw
 wi : Wi
 z : Nat
 D : Dk
abbrev wpP (b l p : Nat) (W : Wd) (s : CSt) (F : List HP) : List HP :=
 own rWd b { W with b := s.b, f := s.f } :: own rC W.t (tkC s.tk) :: own rView W.v s.v :: own rC W.w (wiC s.wi) :: own rC W.a (vaC ⟨p, l, 1⟩) :: own rC l (lgC ⟨p, 1, s.z⟩) :: own rDisk p s.D :: F
def stepS (T : Tri) (A : Ac) (i ph : Int) (s : CSt) : Int × Int × CSt :=
 if ph = 0 then
  if s.tk.free i = false then (10, 0, s)
  else if validB s.v T.rd = false then (9, 0, s)
  else (0, if T.df.length = 0 then 3 else 1, { s with tk := s.tk.lock i })
 else if ph = 1 then
  if 0 < s.f then
   if s.tk.sure i = true then (10, 1, { s with f := s.f - 1 }) else (7, 1, { s with f := s.f - 1, tk := s.tk.unlock i })
  else (0, 2, { s with z := s.z + ((redoL (s.b + 1) T.df).length + 7), D := s.D.app 1 (closeL (1 :: redoL (s.b + 1) T.df)) })
 else if ph = 2 then (0, 3, { s with D := s.D.sync })
 else if ph = 3 then (0, 4, { s with b := s.b + 1, tk := (s.tk.unlock i).drop i, v := if validB s.v T.rd = true then landT s.v T else s.v, wi := s.wi.send (A.o ++ A.l) })
 else (0, ph, s)
structure VwE (v : Vw) : Prop where
 p : VwP v
 t : ∀ (k : Nat) (l : Bs), v.texts[k]? = some l → l = []
structure TE (T : Tri) : Prop where
 ok : TOk vw0 T
theorem TE.cu {T : Tri} (h : TE T) : ∀ (k : Nat) (c : Int), T.cu[k]? = some c → c = 0 := by
 intro k c hc
 have h1 := h.ok.cr k c hc
 have hk : k < 3 := by have := (List.getElem?_eq_some_iff.1 hc).1; rw [h.ok.cu] at this; exact this
 have h2 := h.ok.cn k c (0, 0) [] hc (by match k, hk with | 0, _ => rfl | 1, _ => rfl | 2, _ => rfl) (by match k, hk with | 0, _ => rfl | 1, _ => rfl | 2, _ => rfl)
 simp at h2
 omega
theorem TE.at {T : Tri} {v : Vw} (h : TE T) (hv : VwE v) : TOk v T := by
 refine ⟨h.ok.rk, h.ok.rd, h.ok.dc, h.ok.df, h.ok.cu, h.ok.cr, fun k c x l hc hx hl => ?_, h.ok.fl, h.ok.d6⟩
 have h1 := h.cu k c hc
 have h2 := hv.t k l hl
 have h3 := hv.p.pl k x l hx hl
 subst h1 h2
 simp at h3 ⊢
 omega
theorem VwE.land {v : Vw} {T : Tri} (hv : VwE v) (h : TE T) : VwE (landT v T) := ⟨hv.p.land (h.at hv), hv.t⟩
theorem VwE.new : VwE vw0 := ⟨vw0P, fun k l h => by
 match k, h with
 | 0, h => cases h; rfl
 | 1, h => cases h; rfl
 | 2, h => cases h; rfl⟩
structure CInv (s : CSt) (k m : Nat) : Prop where
 v : VwE s.v
 c : 0 ≤ s.v.clock ∧ s.v.clock ≤ m
 wi : WiOk s.wi (2 * m)
 D : DOk' s.D
 dw : s.D.w.length ≤ 100 + m
 n1 : s.D.n1.length ≤ 100 + 294 * k
 z : s.z ≤ 100 + 294 * k
 b : s.b ≤ m
 f : 0 ≤ s.f ∧ s.f ≤ 9223372036854775807
def wrN (ph : Int) : Nat := if 2 ≤ ph then 1 else 0
theorem WiOk.le {x : Wi} {n m : Nat} (h : WiOk x n) (hn : n ≤ m) : WiOk x m := ⟨by have := h.h0; omega, by have := h.h1; omega, by have := h.h2; omega⟩
theorem WiOk.send {x : Wi} {n : Nat} (h : WiOk x n) (l : List (Int × UInt8)) : WiOk (x.send l) (n + l.length) := by
 unfold Wi.send
 induction l generalizing x n with
 | nil => exact h
 | cons o l ih =>
  have := ih (h.push (k := o.1) (b := [o.2]))
  refine WiOk.le this ?_
  simp; omega
theorem CInv.le {s : CSt} {k k' m m' : Nat} (h : CInv s k m) (hk : k ≤ k') (hm : m ≤ m') : CInv s k' m' :=
 ⟨h.v, ⟨h.c.1, by have := h.c.2; omega⟩, h.wi.le (by omega), h.D, by have := h.dw; omega, by have := h.n1; omega, by have := h.z; omega, by have := h.b; omega, h.f⟩
theorem CInv.step {s : CSt} {k m : Nat} {T : Tri} {A : Ac} {i ph : Int} (h : CInv s k m) (hT : TE T) (hA : A.o.length + A.l.length ≤ 2) (hk : k ≤ 30) (hm : m ≤ 100000) :
  CInv (stepS T A i ph s).2.2 (k + wrN (stepS T A i ph s).2.1 - wrN ph) (m + 1) := by
 unfold stepS
 by_cases c0 : ph = 0
 ·subst c0
  rw [if_pos rfl]
  have e0 : wrN 0 = 0 := rfl
  split
  ·exact h.le (by simp [e0]) (by omega)
  ·split
   ·exact h.le (by simp [e0]) (by omega)
   ·have := h.le (k' := k + wrN (if T.df.length = 0 then 3 else 1) - wrN 0) (m' := m + 1) (by simp [e0]) (by omega)
    exact ⟨this.v, this.c, this.wi, this.D, this.dw, this.n1, this.z, this.b, this.f⟩
 rw [if_neg c0]
 by_cases c1 : ph = 1
 ·subst c1
  rw [if_pos rfl]
  have e0 : wrN 1 = 0 := rfl
  have e2 : wrN 2 = 1 := rfl
  split
  ·next hf =>
   have q := h.le (k' := k + wrN 1 - wrN 1) (m' := m + 1) (by simp [e0]) (by omega)
   have hf2 : 0 ≤ s.f - 1 ∧ s.f - 1 ≤ 9223372036854775807 := by have := h.f; omega
   split
   ·exact ⟨q.v, q.c, q.wi, q.D, q.dw, q.n1, q.z, q.b, hf2⟩
   ·exact ⟨q.v, q.c, q.wi, q.D, q.dw, q.n1, q.z, q.b, hf2⟩
  ·have hb := h.b
   have hrl := redoL_len (n := s.b + 1) hT.ok.df hT.ok.fl (by omega)
   have hcl := closeL_len (1 :: redoL (s.b + 1) T.df)
   have q := h.le (k' := k + 1) (m' := m + 1) (by omega) (by omega)
   have h1 := h.n1
   have h2 := h.dw
   have h3 := h.z
   rw [List.length_cons] at hcl
   have hD : DOk' (s.D.app 1 (closeL (1 :: redoL (s.b + 1) T.df))) := h.D.app (Nat.le_refl 1) (by show (s.D.n1).length + _ ≤ _; omega) (by omega)
   show CInv _ (k + wrN 2 - wrN 1) (m + 1)
   rw [e0, e2]
   refine ⟨q.v, q.c, q.wi, hD, ?_, ?_, ?_, q.b, q.f⟩
   ·show (s.D.w ++ [_]).length ≤ _
    simp; omega
   ·show (s.D.n1 ++ _).length ≤ _
    rw [List.length_append]; omega
   ·show s.z + _ ≤ _
    omega
 rw [if_neg c1]
 by_cases c2 : ph = 2
 ·subst c2
  rw [if_pos rfl]
  have q := h.le (k' := k + wrN 3 - wrN 2) (m' := m + 1) (by simp [wrN]) (by omega)
  have e := h.D.sync_eq
  refine ⟨q.v, q.c, q.wi, h.D.sync, ?_, ?_, q.z, q.b, q.f⟩
  ·show s.D.sync.w.length ≤ _
   rw [e]; simp
  ·show s.D.sync.n1.length ≤ _
   rw [e]; exact q.n1
 rw [if_neg c2]
 by_cases c3 : ph = 3
 ·subst c3
  rw [if_pos rfl]
  have q := h.le (k' := k + wrN 4 - wrN 3) (m' := m + 1) (by simp [wrN]) (by omega)
  have hv : VwE (if validB s.v T.rd = true then landT s.v T else s.v) := by
   split
   ·exact h.v.land hT
   ·exact h.v
  have hc : 0 ≤ (if validB s.v T.rd = true then landT s.v T else s.v).clock ∧ (if validB s.v T.rd = true then landT s.v T else s.v).clock ≤ (m + 1 : Nat) := by
   have := h.c
   split
   ·show 0 ≤ s.v.clock + 1 ∧ s.v.clock + 1 ≤ _
    omega
   ·omega
  refine ⟨hv, hc, ?_, q.D, q.dw, q.n1, q.z, ?_, q.f⟩
  ·refine (h.wi.send (A.o ++ A.l)).le ?_
   simp; omega
  ·have := h.b
   show s.b + 1 ≤ _
   omega
 rw [if_neg c3]
 exact h.le (by simp) (by omega)
theorem acOf_len (x : TyA) : (acOf x).o.length + (acOf x).l.length ≤ 2 := by
 unfold acOf; simp only; split <;> simp
section
variable {H0 : Heap} {F : List HP} {Q : HV → List HP → Prop} [Sea] [SeaOk] [SeaLand] [SeaRedo] {n : Nat} {c a b l p k m : Nat} {W : Wd} {x : TrS} {A : Ac} {i ph : Int} {s : CSt}
theorem commit_stepS_v (hc : CInv s k m) (hk : k ≤ 6) (hm : m ≤ 10000) (hT : TE x.t) (hA : A.o.length + A.l.length ≤ 2) (hw : x.w = W.v) (hp : 0 ≤ ph ∧ ph ≤ 4)
  (h : Q (I (stepS x.t A i ph s).1) (own rC c (cmC i a (stepS x.t A i ph s).2.1) :: own rTry a x :: own rActs x.ac A :: wpP b l p W (stepS x.t A i ph s).2.2 F)) :
  Wp H0 (own rC c (cmC i a ph) :: own rTry a x :: own rActs x.ac A :: wpP b l p W s F) (f_commit_Commit_Step (lv (n + 2)) [.ptr (some (c, 0)), .ptr (some (b, 0))]) Q := by
 have ht := hT.at hc.v
 have hvv := hc.v.p
 have hcl := hc.c
 have hz := hc.z
 have hn := hc.n1
 have hbb := hc.b
 obtain rfl | rfl | rfl | rfl | rfl : ph = 0 ∨ ph = 1 ∨ ph = 2 ∨ ph = 3 ∨ ph = 4 := by omega
 ·refine Wp.cl ?_
  refine Wp.ent (P' := own rC c (cmC i a 0) :: own rWd b { W with b := s.b, f := s.f } :: own rC W.t (tkC s.tk) :: own rTry a x :: own rView x.w s.v :: own rActs x.ac A :: own rC W.w (wiC s.wi) :: own rC W.a (vaC ⟨p, l, 1⟩) :: own rC l (lgC ⟨p, 1, s.z⟩) :: own rDisk p s.D :: F)
   (by rw [hw]; exact .cons rfl (.cons rfl (.cons rfl (.cons rfl (.cons rfl (.cons rfl .refl)))))) ?_
  refine commit_Step_0 (i := i) (a := a) ?_
  unfold stepS at h
  rw [if_pos rfl] at h
  refine commit_check_v (w := { W with b := s.b, f := s.f }) (t := s.tk) (x := x) (v := s.v) hvv.ok ht.rk (fun e1 => ⟨10, rfl, ?_⟩) (fun e1 e2 => ⟨9, rfl, ?_⟩) (fun e1 e2 => ⟨0, rfl, ?_⟩)
  ·rw [if_pos e1] at h
   refine ⟨_, h, ?_⟩
   rw [hw]; exact .cons rfl (.cons rfl (.cons rfl (.cons rfl (.cons rfl (.cons rfl .refl)))))
  ·rw [if_neg (by rw [e1]; decide), if_pos e2] at h
   refine ⟨_, h, ?_⟩
   rw [hw]; exact .cons rfl (.cons rfl (.cons rfl (.cons rfl (.cons rfl (.cons rfl .refl)))))
  ·rw [if_neg (by rw [e1]; decide), if_neg (by rw [e2]; decide)] at h
   refine ⟨_, h, ?_⟩
   rw [hw]; exact .cons rfl (.cons rfl (.cons rfl (.cons rfl (.cons rfl (.cons rfl .refl)))))
 ·refine Wp.cl ?_
  refine Wp.ent (P' := own rC c (cmC i a 1) :: own rWd b { W with b := s.b, f := s.f } :: own rC W.t (tkC s.tk) :: own rC W.a (vaC ⟨p, l, 1⟩) :: own rC l (lgC ⟨p, 1, s.z⟩) :: own rDisk p s.D :: own rTry a x :: own rActs x.ac A :: own rView W.v s.v :: own rC W.w (wiC s.wi) :: F)
   (.cons rfl (.cons rfl (.cons rfl (.cons rfl (.cons rfl (.cons rfl (.cons rfl (.cons rfl (.cons rfl (.cons rfl .refl)))))))))) ?_
  refine commit_Step_1 (i := i) (a := a) ?_
  unfold stepS at h
  rw [if_neg (by decide), if_pos rfl] at h
  refine commit_write_v (w := { W with b := s.b, f := s.f }) (t := s.tk) (va := ⟨p, l, 1⟩) (l := ⟨p, 1, s.z⟩) (d := s.D) (x := x) hc.D (Nat.le_refl 1) (by show s.z ≤ 2048; omega) (by show s.D.n1.length ≤ _; omega) (by show s.b ≤ _; omega) hc.f ht.df ht.fl (fun e1 e2 => ⟨10, rfl, ?_⟩) (fun e1 e2 => ⟨7, rfl, ?_⟩) (fun e1 => ⟨0, rfl, ?_⟩)
  ·rw [if_pos e1, if_pos e2] at h
   refine ⟨_, h, .cons rfl (.cons rfl (.cons rfl (.cons rfl (.cons rfl (.cons rfl (.cons rfl (.cons rfl (.cons rfl (.cons rfl .refl)))))))))⟩
  ·rw [if_pos e1, if_neg (by rw [e2]; decide)] at h
   refine ⟨_, h, .cons rfl (.cons rfl (.cons rfl (.cons rfl (.cons rfl (.cons rfl (.cons rfl (.cons rfl (.cons rfl (.cons rfl .refl)))))))))⟩
  ·have e1 : s.f = 0 := e1
   rw [if_neg (by omega)] at h
   refine ⟨_, h, .cons rfl (.cons rfl (.cons rfl (.cons rfl (.cons rfl (.cons rfl (.cons rfl (.cons rfl (.cons rfl (.cons rfl .refl)))))))))⟩
 ·refine Wp.cl ?_
  refine Wp.ent (P' := own rC c (cmC i a 2) :: own rWd b { W with b := s.b, f := s.f } :: own rC W.a (vaC ⟨p, l, 1⟩) :: own rC l (lgC ⟨p, 1, s.z⟩) :: own rDisk p s.D :: own rC W.t (tkC s.tk) :: own rTry a x :: own rActs x.ac A :: own rView W.v s.v :: own rC W.w (wiC s.wi) :: F)
   (.cons rfl (.cons rfl (.cons rfl (.cons rfl (.cons rfl (.cons rfl (.cons rfl (.cons rfl (.cons rfl (.cons rfl .refl)))))))))) ?_
  unfold stepS at h
  rw [if_neg (by decide), if_neg (by decide), if_pos rfl] at h
  refine commit_Step_2 (w := { W with b := s.b, f := s.f }) (va := ⟨p, l, 1⟩) (l := ⟨p, 1, s.z⟩) (d := s.D) hc.D ?_
  exact ⟨_, h, .cons rfl (.cons rfl (.cons rfl (.cons rfl (.cons rfl (.cons rfl (.cons rfl (.cons rfl (.cons rfl (.cons rfl .refl)))))))))⟩
 ·refine Wp.cl ?_
  refine Wp.ent (P' := own rC c (cmC i a 3) :: own rWd b { W with b := s.b, f := s.f } :: own rC W.t (tkC s.tk) :: own rC W.w (wiC s.wi) :: own rTry a x :: own rActs x.ac A :: own rView x.w s.v :: own rC W.a (vaC ⟨p, l, 1⟩) :: own rC l (lgC ⟨p, 1, s.z⟩) :: own rDisk p s.D :: F)
   (by rw [hw]; exact .cons rfl (.cons rfl (.cons rfl (.cons rfl (.cons rfl (.cons rfl (.cons rfl .refl))))))) ?_
  refine commit_Step_3 (i := i) (a := a) ?_
  unfold stepS at h
  rw [if_neg (by decide), if_neg (by decide), if_neg (by decide), if_pos rfl] at h
  refine commit_land_v (m := 2 * m) (w := { W with b := s.b, f := s.f }) (t := s.tk) (x := x) (v := s.v) (wi := s.wi) (ac := A) hvv ht (by omega) hc.wi (by omega) (by omega) (by show s.b ≤ _; omega) ⟨0, rfl, ?_⟩
  refine ⟨_, h, ?_⟩
  rw [hw]
  exact .cons rfl (.cons rfl (.cons rfl (.cons rfl (.cons rfl (.cons rfl (.cons rfl (.cons rfl (.cons rfl (.cons rfl .refl)))))))))
 ·unfold stepS at h
  rw [if_neg (by decide), if_neg (by decide), if_neg (by decide), if_neg (by decide)] at h
  exact commit_Step_4 (i := i) (a := a) h
end
end Go.Proofs.YtbphjihgbenkdaaGreat.HM
namespace Go.Proofs.YtbphjihgbenkdaaGreat.HM
open Go
section
variable {H0 : Heap} {P F : List HP} {Q : HV → List HP → Prop} {D : HV → List HV → M HV}
theorem great_r {s : Sl} {xs : List TyA} [rr : RoR H0 s TyA tyC 7 xs] (h : Q (.bool (greatB xs)) P) : Wp H0 P (f_law22_great D [.sl s]) Q := by
 unfold f_law22_great
 have g := rr.len
 refine go ⟨fun c => ?_, fun c => ?_⟩
 ·have e : greatB xs = true := by unfold greatB; rw [decide_eq_true (by omega)]; rfl
  rw [e] at h; exact h
 ·have hl : xs.length ≤ 6 := by omega
  refine Wp.forL (σ := Unit) xs.length (by omega) (by omega) (fun _ i => [I i]) (out := fun _ => []) (fun _ _ => rfl) (fun i _ => (xs.take i).any TyA.great = false) (fun _ _ => P) () rfl rfl .refl ?_ ?_
  ·intro i _ hi hp
   have hx : xs[i]? = some xs[i] := List.getElem?_eq_getElem hi
   have hm : xs[i] ∈ xs := List.getElem_mem hi
   generalize xs[i] = x at hx hm
   have htk : (xs.take (i + 1)).any TyA.great = x.great := by
    rw [List.take_add_one, hx, List.any_append, hp]; simp
   have bad : x.great = true → Q (.bool true) P := fun e => by
    have : greatB xs = true := by
     unfold greatB
     have : xs.any TyA.great = true := List.any_eq_true.2 ⟨x, hm, e⟩
     rw [this]; simp
    rw [this] at h; exact h
   refine Wp.ixRo (x := x) rfl hx fun _ _ => ?_
   refine go ⟨fun c1 => ?_, fun c1 => ⟨fun c2 => ?_, fun c2 => ⟨fun c3 => ?_, fun c3 => ?_⟩⟩⟩
   ·exact bad (by unfold TyA.great; rw [decide_eq_true c1]; rfl)
   ·exact bad (by unfold TyA.great; rw [decide_eq_true c2]; simp)
   ·exact bad (by unfold TyA.great; rw [decide_eq_true c3]; simp)
   ·exact ⟨(), rfl, by rw [htk]; unfold TyA.great; rw [decide_eq_false c1, decide_eq_false c2, decide_eq_false c3]; rfl, .refl⟩
  ·intro _ hp
   rw [List.take_length] at hp
   refine go ?_
   have e : greatB xs = false := by unfold greatB; rw [hp, decide_eq_false (by omega)]; rfl
   rw [e] at h; exact h
theorem clone_note_v {s : Sl} {l : List (Int × Int)} [fr : FndR P s none (Int × Int) ntC 2 l F] (hl : l.length ≤ 1000000) (h : ∀ s', Q (.sl s') (own (rR ntC 2) s' l :: P)) : Wp H0 P (f_slices_Clone_world_Note_world_Note D [.sl s]) Q := by
 refine Wp.cl ?_
 unfold f_slices_Clone_world_Note_world_Note
 have hroom : room = 140737488355328 := rfl
 refine Wp.row (s := s) fun q => ?_
 have g := q.len
 refine Wp.fact (p := (s = ⟨none, 0, 0, none⟩ ∧ l = []) ∨ ∃ b, s.p = some (b, 0)) (fun _ hH => (hH.perm fr.p).rRb.imp id fun ⟨b, _, h, _⟩ => ⟨b, h⟩) fun hb => ?_
 refine go ⟨fun c => ?_, fun c b => ?_⟩
 ·rcases hb with ⟨rfl, rfl⟩ | ⟨b, hb⟩
  ·exact ⟨_, h _, Ent.nil ntC (by decide)⟩
  ·rw [hb] at c; cases c
 ·refine Wp.ent (P' := own (rR ntC 2) ⟨some (b, 0), 0, 0, none⟩ [] :: P) (Ent.row (P := own rC b [] :: P) (b := b) (f := ntC) (sz := 2) (xs := []) (o := none) rfl (by simp) (by decide) (by simp) (.inl rfl)) ?_
  refine Wp.rdS (s := s) (xs := l) (f := ntC) ?_
  rw [apd_O]
  refine Wp.apdO (xs := []) (ys := l) rfl g (fun _ _ => rfl) (by simp; omega) (by simp; omega) (.inl (.inl rfl)) fun s' _ _ => ?_
  refine go ?_
  exact ⟨_, h s', Ent.head (fun _ q => q) .refl⟩
theorem world_Notes_v {p : Nat} {w : Wd} [fw : Fnd P rWd p w F] (hl : w.ns.length ≤ 1000000) (h : ∀ s', Q (.sl s') (own (rR ntC 2) s' w.ns :: P)) : Wp H0 P (f_world_World_Notes D [.ptr (some (p, 0))]) Q := by
 refine Wp.cl ?_
 unfold f_world_World_Notes
 refine Wp.open rWd p fun y _ => ?_
 refine go ?_
 refine clone_note_v (s := y) hl fun s' => ?_
 refine go ?_
 exact ⟨_, h s', Ent.head (fun _ q => q) (.back rWd p (.fold y trivial .refl))⟩
end
section
variable {H0 : Heap} {P F : List HP} {Q : HV → List HP → Prop} [Sea] [SeaOk] [SeaUndo] {n : Nat}
omit [Sea] [SeaOk] [SeaUndo] in
theorem begEr {p a ac st : Nat} {T : Tri} {A : Ac} {s' : Sl} {w w2 : Wd} {v : Vw} {ts : List (Nat × (TrS × Ac))} {vp : Nat} (hw : w = w2) :
  Ent (own (rR ptC 1) s' (ts.map Prod.fst ++ [a]) :: own rActs ac A :: own rTry a ⟨vp, ac, st, T⟩ :: own rView vp v :: own rWd p w :: (alls rTA ts ++ F))
   (own (rR ptC 1) s' ((ts ++ [(a, ((⟨vp, ac, st, T⟩ : TrS), A))]).map Prod.fst) :: own rWd p w2 :: own rView vp v :: (alls rTA (ts ++ [(a, ((⟨vp, ac, st, T⟩ : TrS), A))]) ++ F)) := by
 subst hw
 refine Ent.trans (P' := own (rR ptC 1) s' (ts.map Prod.fst ++ [a]) :: own rWd p w :: own rView vp v :: own rTA a ((⟨vp, ac, st, T⟩ : TrS), A) :: (alls rTA ts ++ F)) ?_ ?_
 ·exact Ent.head (fun _ q => q) (.cons rfl (.cons rfl (.fold () trivial (.cons rfl (.cons rfl .refl)))))
 ·rw [List.map_append]
  exact Ent.head (fun _ q => q) (Ent.head (fun _ q => q) (Ent.head (fun _ q => q) alls_snoc))
theorem begun_r {p : Nat} {w : Wd} {v : Vw} {s : Sl} {xs : List TyA} {ls : TyA → List Dee} [rr : RoR H0 s TyA tyC 7 xs] (hr : ∀ x ∈ xs, RoR H0 x.s Dee deC 4 (ls x)) (hl : ∀ x ∈ xs, (ls x).length ≤ 1000000) (hx : xs.length ≤ 1000) (hv : VwP v)
  (h : ∀ s' ts, BegP v w.v ls xs ts → Q (.sl s') (own (rR ptC 1) s' (ts.map Prod.fst) :: own rWd p (wdsOf w xs) :: own rView w.v v :: own (rAll rTA) 0 ts :: F)) :
  Wp H0 (own rWd p w :: own rView w.v v :: F) (f_law22_begun (lv (n + 2)) [.ptr (some (p, 0)), .sl s]) Q := by
 refine Wp.cl ?_
 have hroom : room = 140737488355328 := rfl
 unfold f_law22_begun
 have g := rr.len
 refine Wp.nil ptC (sz := 1) (by decide) ?_
 refine go ?_
 refine Wp.forL (σ := Sl × List (Nat × (TrS × Ac))) xs.length (by omega) (by omega) (fun x i => [.sl x.1, I i]) (out := fun x => [.sl x.1]) (fun _ _ => rfl) (fun i x => BegP v w.v ls (xs.take i) x.2)
  (fun i x => own (rR ptC 1) x.1 (x.2.map Prod.fst) :: own rWd p (wdsOf w (xs.take i)) :: own rView w.v v :: (alls rTA x.2 ++ F)) (⟨none, 0, 0, none⟩, []) rfl ⟨rfl, fun j x e hj => by simp at hj⟩ .refl ?_ ?_
 ·rintro i ⟨sp, ts⟩ hi hp
  have hxi : xs[i]? = some xs[i] := List.getElem?_eq_getElem hi
  have hm : xs[i] ∈ xs := List.getElem_mem hi
  generalize xs[i] = x at hxi hm
  have hro := hr x hm
  refine Wp.ixRo (x := x) rfl hxi fun _ _ => ?_
  refine go ?_
  refine world_View_e (w := wdsOf w (xs.take i)) (vv := w.v) (wdsOf_v _ _) ?_
  refine go ?_
  refine attempt_New_v (v := v) (r := (0, 0, 0, 0)) fun a ac st => ?_
  refine go ?_
  refine Wp.ent (P' := own rC ac [.sl ⟨none, 0, 0, none⟩, .sl ⟨none, 0, 0, none⟩, .sl ⟨none, 0, 0, none⟩, .sl ⟨none, 0, 0, none⟩] :: own rTry a ⟨w.v, ac, st, tri0 v.clock (0, 0, 0, 0)⟩ :: own rView w.v v :: own (rR ptC 1) sp (ts.map Prod.fst) :: own rWd p (wdsOf w (xs.take i)) :: (alls rTA ts ++ F)) (.cons rfl (.cons rfl (.cons rfl (.weak (.pick (.cons rfl .refl)))))) ?_
  refine Wp.ent Ent.acts ?_
  refine Wp.ent (P' := own rTry a ⟨w.v, ac, st, tri0 v.clock (0, 0, 0, 0)⟩ :: own rView w.v v :: own rActs ac ⟨[], [], [], []⟩ :: own (rR ptC 1) sp (ts.map Prod.fst) :: own rWd p (wdsOf w (xs.take i)) :: (alls rTA ts ++ F)) (.cons rfl (.cons rfl .refl)) ?_
  refine deeds_v (n := n + 1) (y := ⟨w.v, ac, st, tri0 v.clock (0, 0, 0, 0)⟩) hv (tri0_ok hv) (hl x hm) ?_
  generalize hw1 : wdsOf w (xs.take i) = w1
  refine go ?_
  refine attempt_Acts_v (x := ⟨w.v, ac, st, dosT v (tri0 v.clock (0, 0, 0, 0)) (ls x)⟩) ?_
  refine go ?_
  refine acts_Send_v (a := ⟨[], [], [], []⟩) (by simp) fun _ => ?_
  refine go ?_
  refine attempt_Acts_v (x := ⟨w.v, ac, st, dosT v (tri0 v.clock (0, 0, 0, 0)) (ls x)⟩) ?_
  refine go ?_
  refine acts_Later_v (a := ⟨(acOf x).o, [], [], []⟩) (by simp) fun _ => ?_
  refine go ?_
  refine attempt_Acts_v (x := ⟨w.v, ac, st, dosT v (tri0 v.clock (0, 0, 0, 0)) (ls x)⟩) ?_
  refine go ?_
  refine acts_Note_v (a := ⟨(acOf x).o, (acOf x).l, [], []⟩) (by simp) ?_
  refine go ?_
  refine attempt_Acts_v (x := ⟨w.v, ac, st, dosT v (tri0 v.clock (0, 0, 0, 0)) (ls x)⟩) ?_
  refine go ?_
  refine acts_Opened_v (a := ⟨(acOf x).o, (acOf x).l, (acOf x).n, []⟩) (by simp) ?_
  show Wp H0 (own rActs ac (acOf x) :: own rTry a ⟨w.v, ac, st, dosT v (tri0 v.clock (0, 0, 0, 0)) (ls x)⟩ :: own rView w.v v :: own (rR ptC 1) sp (ts.map Prod.fst) :: own rWd p w1 :: (alls rTA ts ++ F)) _ _
  have htl : ts.length ≤ 1000 := by have := hp.1; simp at this; omega
  have hws : wdsOf w (xs.take (i + 1)) = wdOf w1 x := by rw [wdsOf_snoc hxi, hw1]
  refine go ⟨fun c => ?_, fun c => ?_⟩
  ·have hpl : (acOf x).p.length ≤ 1 := by unfold acOf; simp only; split <;> simp
   have hul : (undoL (acOf x).p).length ≤ 1 := by unfold undoL; simpa using hpl
   refine attempt_Acts_v (x := ⟨w.v, ac, st, dosT v (tri0 v.clock (0, 0, 0, 0)) (ls x)⟩) ?_
   refine go ?_
   refine acts_Undo_v (n := n) (a := acOf x) (by omega) fun s4 => ?_
   refine go ?_
   refine Wp.row (s := s4) fun q4 => ?_
   have g4 := q4.len
   refine Wp.forL (σ := Unit) (undoL (acOf x).p).length (by omega) (by omega) (fun _ i => [I i]) (out := fun _ => []) (fun _ _ => rfl) (fun _ _ => True)
    (fun j _ => own (rR opC 2) s4 (undoL (acOf x).p) :: own rActs ac (acOf x) :: own rTry a ⟨w.v, ac, st, dosT v (tri0 v.clock (0, 0, 0, 0)) (ls x)⟩ :: own rView w.v v :: own (rR ptC 1) sp (ts.map Prod.fst) :: own rWd p (w1.add (((undoL (acOf x).p).take j).map negO)) :: (alls rTA ts ++ F)) () rfl trivial .refl ?_ ?_
   ·intro j _ hj _
    have hxj : (undoL (acOf x).p)[j]? = some (undoL (acOf x).p)[j] := List.getElem?_eq_getElem hj
    generalize (undoL (acOf x).p)[j] = o at hxj
    have hadd : w1.add (((undoL (acOf x).p).take (j + 1)).map negO) = (w1.add (((undoL (acOf x).p).take j).map negO)).add [negO o] := by
     rw [List.take_add_one, hxj, List.map_append]
     unfold Wd.add
     rw [List.foldl_append]; rfl
    refine Wp.ixN (x := o) (f := opC) (s := s4) rfl hxj fun _ _ => ?_
    refine go fun b74 => ?_
    refine Wp.ent (Ent.row (b := b74) (f := opC) (sz := 2) (xs := [negO o]) (o := none) rfl (fun _ _ => rfl) (by decide) (by simp) (.inl rfl)) ?_
    refine world_Add_v (l := [negO o]) (by simp) ?_
    refine go ?_
    exact ⟨(), rfl, trivial, .pick (.pick (.pick (.pick (.pick (.cons hadd.symm (.weak .refl))))))⟩
   ·intro _ _
    rw [List.take_length]
    refine go ?_
    refine Wp.apd (x := a) rfl rfl (by simp; omega) (by simp; omega) fun s' => ?_
    refine go ?_
    refine ⟨(s', ts ++ [(a, ((⟨w.v, ac, st, dosT v (tri0 v.clock (0, 0, 0, 0)) (ls x)⟩ : TrS), acOf x))]), rfl, hp.snoc hxi ⟨rfl, rfl, rfl⟩, Ent.trans ?_ (begEr (w := w1.add ((undoL (acOf x).p).map negO)) hws.symm)⟩
    exact Ent.head (fun _ q => q) (.weak .refl)
  ·have c : ¬ (0 ≤ x.tally ∧ x.tally < 4) := by simpa using c
   have hw2 : w1 = wdsOf w (xs.take (i + 1)) := by
    rw [hws]; unfold wdOf acOf; simp only; rw [if_neg c]; rfl
   refine Wp.apd (x := a) rfl rfl (by simp; omega) (by simp; omega) fun s' => ?_
   refine go ?_
   exact ⟨(s', ts ++ [(a, ((⟨w.v, ac, st, dosT v (tri0 v.clock (0, 0, 0, 0)) (ls x)⟩ : TrS), acOf x))]), rfl, hp.snoc hxi ⟨rfl, rfl, rfl⟩, begEr hw2⟩
 ·rintro ⟨sp, ts⟩ hp
  rw [List.take_length] at hp ⊢
  refine go ?_
  exact ⟨_, h sp ts hp, Ent.head (fun _ q => q) (Ent.head (fun _ q => q) (Ent.head (fun _ q => q) Ent.allF))⟩
end
end Go.Proofs.YtbphjihgbenkdaaGreat.HM
namespace Go.Proofs.YtbphjihgbenkdaaGreat.HM
open Go
theorem Wp.ixRoC {α γ : Type} {H0 : Heap} {P : List HP} {Q : α → List HP → Prop} {s : Sl} {f : γ → List HV} {sz : Nat} {xs : List γ} {i : Int} {j k : Nat} {x : γ} {v : HV} {g : Nat → Nat → HV → M α} [r : RoR H0 s γ f sz xs] (hj : i = (j : Int)) (hi : xs[j]? = some x) (hv : (f x)[k]? = some v) (h : ∀ b o, Wp H0 P (g b o v) Q) : Wp H0 P (HM.ix s i sz fun b o => HM.ldC b (o + k) fun c => g b o c) Q := fun H hH => by
 subst hj
 have hr := SlR.keeps r.h hH.kp.k
 obtain ⟨b, o, cs, ro, h1, h2, h3, h4⟩ := hr.at (i := j) (l := f x) (by simp [hi])
 have hlt : j < xs.length := (List.getElem?_eq_some_iff.1 hi).1
 have hk := (List.getElem?_eq_some_iff.1 hv).1
 have hfl : (f x).length = sz := hr.szs _ (List.mem_map.2 ⟨x, List.mem_of_getElem? hi, rfl⟩)
 unfold ix
 refine wp_gd (by simp) (wp_gd (by rw [hr.len]; simp; omega) ?_)
 rw [h1, mP_eq']
 refine wp_of (m' := g b (o + (j : Int).toNat * sz) v) (fun n => ?_) (h _ _ H hH)
 show HM.ldC b (o + (j : Int).toNat * sz + k) (fun c => g b (o + (j : Int).toNat * sz) c) H n = _
 unfold HM.ldC
 simp only [h2]
 have : cs[o + (j : Int).toNat * sz + k]? = some v := by
  rw [← h4, List.getElem?_take, if_pos (by omega), List.getElem?_drop] at hv
  exact hv
 unfold HM.gx
 rw [this]
theorem Wp.eqM {α : Type} {H0 : Heap} {P : List HP} {Q : α → List HP → Prop} {sh : List Sc} {xs ys : List HV} {b : Bool} {f : Bool → M α} (he : eqSh sh xs ys = some b) (h : Wp H0 P (f b) Q) : Wp H0 P (HM.eqM sh xs ys f) Q := by
 unfold HM.eqM; rw [he]; exact h
abbrev c1 (x : Int × Int) : HV := I x.1
abbrev f2 (x : Fl × Int) : List HV := [.bool x.1.1, .str (S x.1.2)]
def thC (v : Vw) : List HV := v.cells.map c1 ++ ((v.files.map f2).flatten ++ v.places.map c1)
theorem take_snocM {α β : Type} {f : α → β} {xs : List α} {i : Nat} {x : α} (h : xs[i]? = some x) : (xs.take (i + 1)).map f = (xs.take i).map f ++ [f x] := by
 rw [List.take_add_one, h]; simp
theorem set_midM {α : Type} {A B : List α} {x y : α} : (A ++ x :: B).set A.length y = A ++ y :: B := by
 rw [List.set_append_right _ _ (Nat.le_refl _), Nat.sub_self]; rfl
theorem putN_midM {A B X Y : List HV} (h : X.length = Y.length) : putN (A ++ (X ++ B)) A.length Y = A ++ (Y ++ B) := by
 unfold putN
 rw [List.take_left, ← h, List.drop_append, List.drop_eq_nil_of_le (by omega)]
 have : A.length + X.length - A.length = X.length := by omega
 rw [this, List.drop_left]; simp
abbrev zF : List HV := [.bool false, .str (ByteArray.mk #[])]
theorem flat_len2 (l : List (Fl × Int)) : ((l.map f2).flatten).length = l.length * 2 := by
 induction l with
 | nil => rfl
 | cons a l ih => simp [ih]; omega
section
variable {H0 : Heap} {P F F' : List HP} {Q : HV → List HP → Prop} {D : HV → List HV → M HV}
theorem things_v {p q : Nat} {w : Wd} {v : Vw} [fw : Fnd P rWd p w F] [fv : Fnd P rView q v F'] (e : w.v = q) (ok : VOk v) (h : Q (.agg (thC v)) P) : Wp H0 P (f_law22_things D [.ptr (some (p, 0))]) Q := by
 refine Wp.cl ?_
 unfold f_law22_things
 refine go ?_
 refine Wp.forL (σ := List HV) 8 (by decide) (by decide) (fun y i => [I i, .agg y]) (out := fun y => [.agg y]) (fun _ _ => rfl)
  (fun i y => y = (v.cells.take i).map c1 ++ (List.replicate (8 - i) (I 0) ++ ((List.replicate 6 zF).flatten ++ List.replicate 3 (I 0)))) (fun _ _ => P) _ rfl rfl .refl ?_ ?_
 ·intro i y hi hy
  obtain ⟨x, hx⟩ : ∃ x, v.cells[i]? = some x := ⟨_, List.getElem?_eq_getElem (by rw [ok.c]; exact hi)⟩
  have hl : ((v.cells.take i).map c1).length = i := by simp [ok.c]; omega
  refine go ?_
  refine world_View_e (w := w) e ?_
  refine go ?_
  refine Wp.open rView q fun z _ => ?_
  refine go ?_
  refine cell_Row_int_Get_v (xs := v.cells) (x := x) (by omega) (by simpa using hx) ?_
  refine go ⟨by omega, by omega, ?_, ?_⟩
  ·rw [hy, List.length_append, hl]; simp <;> omega
  ·refine ⟨_, rfl, ?_, .back rView q (.fold z trivial .refl)⟩
   rw [hy, take_snocM hx, List.append_assoc, show 8 - i = (8 - (i + 1)) + 1 by omega, List.replicate_succ]
   have := set_midM (A := (v.cells.take i).map c1) (B := List.replicate (8 - (i + 1)) (I 0) ++ ((List.replicate 6 zF).flatten ++ List.replicate 3 (I 0))) (x := I 0) (y := c1 x)
   rw [hl] at this
   simp only [List.cons_append, Nat.zero_add, Nat.mul_one, List.nil_append, Int.toNat_natCast]
   exact this
 intro y hy
 rw [List.take_of_length_le (by rw [ok.c]; decide)] at hy
 refine go ?_
 have hcl : (v.cells.map c1).length = 8 := by simp [ok.c]
 refine Wp.forL (σ := List HV) 6 (by decide) (by decide) (fun y i => [I i, .agg y]) (out := fun y => [.agg y]) (fun _ _ => rfl)
  (fun i y => y = (v.cells.map c1 ++ ((v.files.take i).map f2).flatten) ++ ((List.replicate (6 - i) zF).flatten ++ List.replicate 3 (I 0))) (fun _ _ => P) y rfl (by rw [hy]; simp) .refl ?_ ?_
 ·intro i y hi hy
  obtain ⟨x, hx⟩ : ∃ x, v.files[i]? = some x := ⟨_, List.getElem?_eq_getElem (by rw [ok.f]; exact hi)⟩
  have hl : (v.cells.map c1 ++ ((v.files.take i).map f2).flatten).length = 8 + i * 2 := by
   rw [List.length_append, hcl, flat_len2, List.length_take, ok.f]; omega
  have hrp : 6 - i = (6 - (i + 1)) + 1 := by omega
  refine go ?_
  refine world_View_e (w := w) e ?_
  refine go ?_
  refine Wp.open rView q fun z _ => ?_
  refine go ?_
  refine tome_Get_v (fs := v.files) (x := x) (by omega) (by simpa using hx) ?_
  refine go ⟨by omega, by omega, ?_, ?_⟩
  ·rw [hy, hrp, List.length_append, hl, List.replicate_succ]; simp <;> omega
  ·refine ⟨_, rfl, ?_, .back rView q (.fold z trivial .refl)⟩
   rw [hy, take_snocM hx, hrp, List.replicate_succ, List.flatten_cons, List.flatten_append]
   have := putN_midM (A := v.cells.map c1 ++ ((v.files.take i).map f2).flatten) (B := (List.replicate (6 - (i + 1)) zF).flatten ++ List.replicate 3 (I 0)) (X := zF) (Y := f2 x) rfl
   rw [hl] at this
   simp only [Int.toNat_natCast, List.append_assoc] at this ⊢
   rw [this]
   simp
 intro y hy
 rw [List.take_of_length_le (by rw [ok.f]; decide)] at hy
 refine go ?_
 refine Wp.forL (σ := List HV) 3 (by decide) (by decide) (fun y i => [I i, .agg y]) (out := fun y => [.agg y]) (fun _ _ => rfl)
  (fun i y => y = (v.cells.map c1 ++ (v.files.map f2).flatten ++ (v.places.take i).map c1) ++ List.replicate (3 - i) (I 0)) (fun _ _ => P) y rfl (by rw [hy]; simp) .refl ?_ ?_
 ·intro i y hi hy
  obtain ⟨x, hx⟩ : ∃ x, v.places[i]? = some x := ⟨_, List.getElem?_eq_getElem (by rw [ok.p]; exact hi)⟩
  have hl : (v.cells.map c1 ++ (v.files.map f2).flatten ++ (v.places.take i).map c1).length = 20 + i := by
   rw [List.length_append, List.length_append, hcl, flat_len2, ok.f, List.length_map, List.length_take, ok.p]; omega
  refine go ?_
  refine world_View_e (w := w) e ?_
  refine go ?_
  refine Wp.open rView q fun z _ => ?_
  refine go ?_
  refine feed_Place_v (ts := v.texts) (ps := v.places) (x := x) (by omega) (by simpa using hx) ?_
  refine go ⟨by omega, by omega, ?_, ?_⟩
  ·rw [hy, List.length_append, hl]; simp <;> omega
  ·refine ⟨_, rfl, ?_, .back rView q (.fold z trivial .refl)⟩
   rw [hy, take_snocM hx, show 3 - i = (3 - (i + 1)) + 1 by omega, List.replicate_succ]
   have := set_midM (A := v.cells.map c1 ++ (v.files.map f2).flatten ++ (v.places.take i).map c1) (B := List.replicate (3 - (i + 1)) (I 0)) (x := I 0) (y := c1 x)
   rw [hl] at this
   simp only [Int.toNat_natCast, Nat.mul_one, List.append_assoc] at this ⊢
   rw [this]
   simp
 intro y hy
 rw [List.take_of_length_le (by rw [ok.p]; decide)] at hy
 have hy : y = thC v := by rw [hy]; unfold thC; simp
 have hl : (thC v).length = 23 := by
  unfold thC
  rw [List.length_append, List.length_append, hcl, flat_len2, ok.f, List.length_map, ok.p]
 subst hy
 refine go ?_
 refine Wp.gxN (vs := thC v) (by omega) (by rw [List.drop_zero, List.take_of_length_le (by omega)]) ?_
 refine go ⟨?_, ?_, ?_⟩
 ·rw [hl]; rfl
 ·rw [hl]; decide
 refine Wp.gxN (vs := thC v) ?_ ?_ ?_
 ·unfold putN; simp [hl]
 ·unfold putN
  rw [hl]
  simp only [List.take_zero, List.nil_append, List.drop_zero, Nat.zero_add]
  rw [List.take_append_of_le_length (by omega), List.take_of_length_le (by omega)]
 refine go ?_
 exact ⟨_, h, .refl⟩
end
def cst0 : CSt := ⟨0, 0, ⟨-1, false, -1⟩, vw0, ⟨[], [], []⟩, (natL 0).length + 8, dkS (natL 0)⟩
theorem cst0_inv : CInv cst0 0 0 := by
 have e0 : (natL 0).length = 1 := by rw [natL_lo (by decide)]; rfl
 refine ⟨.new, ⟨by decide, by decide⟩, ⟨by simp [cst0], by simp [cst0], by simp [cst0]⟩, dkS_ok (by omega), ?_, ?_, ?_, by decide, by decide⟩
 ·show (dkS (natL 0)).w.length ≤ _
  simp
 ·show (dkS (natL 0)).n1.length ≤ _
  show (stlL (natL 0)).length ≤ _
  unfold stlL
  rw [closeL_len, stlS_len, e0]; omega
 ·show (natL 0).length + 8 ≤ _
  omega
theorem wdsOf_rest' (xs : List TyA) : ∀ w : Wd, (wdsOf w xs).t = w.t ∧ (wdsOf w xs).ns = w.ns ∧ (wdsOf w xs).v = w.v ∧ (wdsOf w xs).w = w.w ∧ (wdsOf w xs).a = w.a ∧ (wdsOf w xs).b = w.b ∧ (wdsOf w xs).f = w.f := by
 induction xs with
 | nil => intro w; exact ⟨rfl, rfl, rfl, rfl, rfl, rfl, rfl⟩
 | cons x xs ih =>
  intro w
  have h := ih (wdOf w x)
  have e := Wd.add_rest ((undoL (acOf x).p).map negO) w
  show (wdsOf (wdOf w x) xs).t = w.t ∧ _
  exact ⟨h.1.trans e.1, h.2.1.trans e.2.1, h.2.2.1.trans e.2.2.1, h.2.2.2.1.trans e.2.2.2.1, h.2.2.2.2.1.trans e.2.2.2.2.1, h.2.2.2.2.2.1.trans e.2.2.2.2.2.1, h.2.2.2.2.2.2.trans e.2.2.2.2.2.2⟩
/-! tallies -/
def talE (w : Wd) (a : Int → Int) : Prop := w.t0 = a 0 ∧ w.t1 = a 1 ∧ w.t2 = a 2 ∧ w.t3 = a 3
theorem talE.one {w : Wd} {a : Int → Int} {o d : Int} (h : talE w a) (ha : ∀ k, -1000000000000000 ≤ a k ∧ a k ≤ 1000000000000000) (hd : -1000000000000000 ≤ d ∧ d ≤ 1000000000000000) (ho : 0 ≤ o ∧ o < 4) : talE (w.add1 (o, d)) (fun k => a k + if k = o then d else 0) := by
 obtain ⟨h0, h1, h2, h3⟩ := h
 have b0 := ha 0
 have b1 := ha 1
 have b2 := ha 2
 have b3 := ha 3
 have e0 := wr_small (n := w.t0 + d) (by omega) (by omega)
 have e1 := wr_small (n := w.t1 + d) (by omega) (by omega)
 have e2 := wr_small (n := w.t2 + d) (by omega) (by omega)
 have e3 := wr_small (n := w.t3 + d) (by omega) (by omega)
 rw [h0] at e0; rw [h1] at e1; rw [h2] at e2; rw [h3] at e3
 unfold Wd.add1 talE
 obtain rfl | rfl | rfl | rfl : o = 0 ∨ o = 1 ∨ o = 2 ∨ o = 3 := by omega
 ·simp [e0, h0, h1, h2, h3]
 ·simp [e1, h0, h1, h2, h3]
 ·simp [e2, h0, h1, h2, h3]
 ·simp [e3, h0, h1, h2, h3]
def talX (x : TyA) (k : Int) : Int := if (0 ≤ x.tally ∧ x.tally < 4) ∧ k = x.tally then x.delta else 0
def sumX : List TyA → Int → Int
 | [], _ => 0
 | x :: l, k => talX x k + sumX l k
theorem talE.eq {w : Wd} {a a' : Int → Int} (h : talE w a) (e : ∀ k, a k = a' k) : talE w a' := ⟨h.1.trans (e 0), h.2.1.trans (e 1), h.2.2.1.trans (e 2), h.2.2.2.trans (e 3)⟩
def okX (x : TyA) : Prop := -1099511627776 ≤ x.delta ∧ x.delta ≤ 1099511627776
theorem talX_ok {x : TyA} (h : okX x) (k : Int) : -1099511627776 ≤ talX x k ∧ talX x k ≤ 1099511627776 := by
 unfold talX; have := h.1; have := h.2; split <;> omega
theorem sumX_ok {xs : List TyA} (h : ∀ x ∈ xs, okX x) (k : Int) : -(xs.length : Int) * 1099511627776 ≤ sumX xs k ∧ sumX xs k ≤ (xs.length : Int) * 1099511627776 := by
 induction xs with
 | nil => simp [sumX]
 | cons x l ih =>
  have h1 := ih fun y hy => h y (List.mem_cons_of_mem _ hy)
  have h2 := talX_ok (h x List.mem_cons_self) k
  simp only [sumX, List.length_cons, Int.natCast_add, Int.natCast_one]
  omega
theorem talE.done {w : Wd} {x : TyA} {a : Int → Int} (h : talE w a) (ha : ∀ k, -100000000000000 ≤ a k ∧ a k ≤ 100000000000000) (hx : okX x) : talE (wdOf w x) (fun k => a k + talX x k) := by
 obtain ⟨hx1, hx2⟩ := hx
 unfold wdOf acOf undoL
 by_cases c : 0 ≤ x.tally ∧ x.tally < 4
 ·simp only [if_pos c]
  have e1 := wr_small (n := 0 - x.delta) (by omega) (by omega)
  have e2 := wr_small (n := 0 - (0 - x.delta)) (by omega) (by omega)
  have e : ((List.map negO [(x.tally, x.delta)].reverse).map negO) = [(x.tally, x.delta)] := by
   simp only [List.reverse_cons, List.reverse_nil, List.nil_append, List.map_cons, List.map_nil, negO, e1, e2]
   rw [Int.sub_eq_add_neg, Int.zero_add, Int.sub_eq_add_neg, Int.zero_add, Int.neg_neg]
  rw [e]
  refine (h.one (o := x.tally) (d := x.delta) (fun k => by have := ha k; omega) (by omega) c).eq fun k => ?_
  unfold talX
  by_cases q : k = x.tally
  ·rw [if_pos q, if_pos ⟨c, q⟩]
  ·rw [if_neg q, if_neg (fun z => q z.2)]
 ·simp only [if_neg c]
  refine h.eq fun k => ?_
  unfold talX
  rw [if_neg (fun z => c z.1)]; omega
theorem talE.dones {xs : List TyA} : ∀ {w : Wd} {a : Int → Int} {m : Nat}, talE w a → (∀ k, -(m : Int) * 1099511627776 ≤ a k ∧ a k ≤ (m : Int) * 1099511627776) → m + xs.length ≤ 20 → (∀ x ∈ xs, okX x) → talE (wdsOf w xs) (fun k => a k + sumX xs k) := by
 induction xs with
 | nil => intro w a m h _ _ _; exact h.eq fun k => by simp [sumX]
 | cons x l ih =>
  intro w a m h ha hm hx
  simp only [List.length_cons] at hm
  have h1 := h.done (x := x) (fun k => by have := ha k; omega) (hx x List.mem_cons_self)
  have h2 := ih (m := m + 1) h1 (fun k => by have := ha k; have := talX_ok (hx x List.mem_cons_self) k; omega) (by omega) fun y hy => hx y (List.mem_cons_of_mem _ hy)
  exact h2.eq fun k => by simp only [sumX]; omega
theorem talE.undo {w : Wd} {x : TyA} {a : Int → Int} {i : Int} (h : talE w a) (ha : ∀ k, -100000000000000 ≤ a k ∧ a k ≤ 100000000000000) (hx : okX x) : talE (w.undone i (acOf x)) (fun k => a k - talX x k) := by
 obtain ⟨hx1, hx2⟩ := hx
 unfold Wd.undone acOf undoL
 by_cases c : 0 ≤ x.tally ∧ x.tally < 4
 ·simp only [if_pos c]
  have e1 := wr_small (n := 0 - x.delta) (by omega) (by omega)
  have e : (List.map negO [(x.tally, x.delta)].reverse) = [(x.tally, 0 - x.delta)] := by
   simp only [List.reverse_cons, List.reverse_nil, List.nil_append, List.map_cons, List.map_nil, negO, e1]
  rw [e]
  suffices q : talE (w.add1 (x.tally, 0 - x.delta)) (fun k => a k - talX x k) from ⟨q.1, q.2.1, q.2.2.1, q.2.2.2⟩
  refine (h.one (o := x.tally) (d := 0 - x.delta) (fun k => by have := ha k; omega) (by omega) c).eq fun k => ?_
  unfold talX
  by_cases q : k = x.tally
  ·rw [if_pos q, if_pos ⟨c, q⟩]; omega
  ·rw [if_neg q, if_neg (fun z => q z.2)]; omega
 ·simp only [if_neg c]
  have q : talE w (fun k => a k - talX x k) := h.eq fun k => by
   unfold talX
   rw [if_neg (fun z => c z.1)]; omega
  exact ⟨q.1, q.2.1, q.2.2.1, q.2.2.2⟩
end Go.Proofs.YtbphjihgbenkdaaGreat.HM
namespace Go.Proofs.YtbphjihgbenkdaaGreat.HM
open Go
structure AB (s : CSt) (ph : Int) (m : Nat) : Prop where
 inv : CInv s (wrN ph) m
 ph : 0 ≤ ph ∧ ph ≤ 3
 v : s.v = vw0
 w : s.wi = ⟨[], [], []⟩
 b : s.b = 0
 h : s.tk.h = -1 ∨ s.tk.h = 0
 c : s.tk.c = -1 ∨ s.tk.c = 0
theorem AB.step {s : CSt} {ph : Int} {m : Nat} {T : Tri} {A : Ac} (h : AB s ph m) (hp : ph < 3) (hm : m ≤ 1000) (hT : TE T) (hA : A.o.length + A.l.length ≤ 2) : AB (stepS T A 0 ph s).2.2 (stepS T A 0 ph s).2.1 (m + 1) := by
 have hi := h.inv.step (A := A) (i := 0) (ph := ph) hT hA (by unfold wrN; split <;> omega) (by omega)
 have hk : wrN ph + wrN (stepS T A 0 ph s).2.1 - wrN ph = wrN (stepS T A 0 ph s).2.1 := by omega
 rw [hk] at hi
 obtain ⟨_, hph, hv, hw, hb, hh, hcc⟩ := h
 suffices q : (0 ≤ (stepS T A 0 ph s).2.1 ∧ (stepS T A 0 ph s).2.1 ≤ 3) ∧ (stepS T A 0 ph s).2.2.v = vw0 ∧ (stepS T A 0 ph s).2.2.wi = ⟨[], [], []⟩ ∧ (stepS T A 0 ph s).2.2.b = 0 ∧ ((stepS T A 0 ph s).2.2.tk.h = -1 ∨ (stepS T A 0 ph s).2.2.tk.h = 0) ∧ ((stepS T A 0 ph s).2.2.tk.c = -1 ∨ (stepS T A 0 ph s).2.2.tk.c = 0) from ⟨hi, q.1, q.2.1, q.2.2.1, q.2.2.2.1, q.2.2.2.2.1, q.2.2.2.2.2⟩
 clear hi hk
 obtain rfl | rfl | rfl : ph = 0 ∨ ph = 1 ∨ ph = 2 := by omega
 ·unfold stepS
  rw [if_pos rfl]
  split
  ·exact ⟨by simp, hv, hw, hb, hh, hcc⟩
  ·split
   ·exact ⟨by simp, hv, hw, hb, hh, hcc⟩
   ·refine ⟨by simp only; split <;> simp, hv, hw, hb, ?_, ?_⟩
    ·show (s.tk.lock 0).h = -1 ∨ _
     unfold Tk.lock; split <;> exact hh
    ·show (s.tk.lock 0).c = -1 ∨ (s.tk.lock 0).c = 0
     unfold Tk.lock; split
     ·exact .inr rfl
     ·exact hcc
 ·unfold stepS
  rw [if_neg (by decide), if_pos rfl]
  split
  ·split
   ·exact ⟨by simp, hv, hw, hb, hh, hcc⟩
   ·refine ⟨by simp, hv, hw, hb, ?_, ?_⟩
    ·show (s.tk.unlock 0).h = -1 ∨ _
     unfold Tk.unlock; split <;> exact hh
    ·show (s.tk.unlock 0).c = -1 ∨ (s.tk.unlock 0).c = 0
     unfold Tk.unlock; split
     ·exact .inl rfl
     ·exact hcc
  ·exact ⟨by simp, hv, hw, hb, hh, hcc⟩
 ·unfold stepS
  rw [if_neg (by decide), if_neg (by decide), if_pos rfl]
  exact ⟨by simp, hv, hw, hb, hh, hcc⟩
theorem Tk.gone {t : Tk} (h : t.h = -1 ∨ t.h = 0) (c : t.c = -1 ∨ t.c = 0) : ((t.unlock 0).drop 0).h = -1 ∧ ((t.unlock 0).drop 0).c = -1 := by
 obtain ⟨th, ts, tc⟩ := t
 simp only at h c
 rcases h with rfl | rfl <;> rcases c with rfl | rfl <;> simp [Tk.unlock, Tk.drop]
theorem Tk.gone' {t : Tk} {i : Int} (hi : 0 ≤ i) (h : t.h = -1) (c : t.c = -1) : ((t.unlock i).drop i).h = -1 ∧ ((t.unlock i).drop i).c = -1 := by
 obtain ⟨th, ts, tc⟩ := t
 simp only at h c
 subst h c
 unfold Tk.unlock
 rw [if_neg (by simp only; omega)]
 unfold Tk.drop
 rw [if_neg (by simp only; omega)]
 exact ⟨rfl, rfl⟩
theorem Tk.free_of {t : Tk} {i : Int} (hi : 0 ≤ i) (h : t.h = -1) (c : t.c = -1) : t.free i = true := by
 unfold Tk.free; rw [h, c]; simp [hi]
section
variable {H0 : Heap} {P F : List HP} [Sea] [SeaOpen] [SeaOk] [SeaLand] [SeaUndo] [SeaRedo] {n : Nat}
theorem law22_CommitAborts_v {s : Sl} {xs : List TyA} {ls : TyA → List Dee} {k : Int} {hd : Bool} [rr : RoR H0 s TyA tyC 7 xs] (hr : ∀ x ∈ xs, RoR H0 x.s Dee deC 4 (ls x)) :
  Wp H0 [] (f_law22_CommitAborts (lv (n + 3)) [.sl s, I k, .bool hd]) (fun a _ => a = .bool true) := by
 unfold f_law22_CommitAborts
 have g0 := rr.len
 refine go ?_
 refine alive_v (n := n) ?_
 refine go ?_
 refine great_r (xs := xs) ?_
 refine go ⟨fun _ => rfl, fun c => ⟨fun _ => rfl, fun c2 => ?_⟩⟩
 refine disk_New_v fun p => ?_
 refine go ?_
 refine world_Open_e (n := n) fun b vw wi tk va l => ?_
 refine go ?_
 refine things_v (v := vw0) rfl vw0P.ok ?_
 refine go ⟨by decide, by decide, ?_⟩
 have hc : xs.length ≤ 6 ∧ (∀ x ∈ xs, (ls x).length ≤ 20) ∧ ∀ x ∈ xs, okX x := by
  unfold greatB TyA.great at c
  simp at c
  refine ⟨by omega, fun x hx => ?_, fun x hx => ?_⟩
  ·have h1 := c.2 x hx
   have h2 := (hr x hx).len
   omega
  ·have h1 := c.2 x hx
   exact ⟨by omega, by omega⟩
 refine begun_r (n := n + 1) (w := ⟨vw, wi, tk, p, va, 0, 0, 0, 0, [], 0, 0⟩) (v := vw0) (xs := xs) (ls := ls) hr (fun x hx => Nat.le_trans (hc.2.1 x hx) (by decide)) (by omega) vw0P fun s' ts hts => ?_
 have hw := wdsOf_rest' xs ⟨vw, wi, tk, p, va, 0, 0, 0, 0, [], 0, 0⟩
 have ht := talE.dones (xs := xs) (w := ⟨vw, wi, tk, p, va, 0, 0, 0, 0, [], 0, 0⟩) (a := fun _ => 0) (m := 0) ⟨rfl, rfl, rfl, rfl⟩ (fun k => by simp) (by omega) hc.2.2
 generalize wdsOf ⟨vw, wi, tk, p, va, 0, 0, 0, 0, [], 0, 0⟩ xs = W at hw ht
 obtain ⟨W1, W2, W3, W4, W5, t0, t1, t2, t3, ns, W6, W7⟩ := W
 simp only at hw
 obtain ⟨rfl, rfl, rfl, rfl, rfl, rfl, rfl⟩ := hw
 have hall : ∀ (j : Nat) (e : Nat × (TrS × Ac)), ts[j]? = some e → ∃ x, xs[j]? = some x ∧ e.2.1.w = W1 ∧ TE e.2.1.t ∧ e.2.2 = acOf x := fun j e he => by
  have hj := (List.getElem?_eq_some_iff.1 he).1
  rw [hts.1] at hj
  obtain ⟨x, hx⟩ : ∃ x, xs[j]? = some x := ⟨_, List.getElem?_eq_getElem hj⟩
  obtain ⟨u0, u1, u2⟩ := hts.2 j x e hx he
  exact ⟨x, hx, u0, ⟨by rw [u1]; exact dosT_ok vw0P (tri0_ok vw0P)⟩, u2⟩
 have hln : ts.length = xs.length := hts.1
 have hne : 0 < xs.length := by rw [← g0]; omega
 obtain ⟨⟨a, y, A⟩, h00⟩ : ∃ e, ts[0]? = some e := ⟨_, List.getElem?_eq_getElem (by omega)⟩
 obtain ⟨x0, hx0, hyw, hTE, hA0⟩ := hall 0 _ h00
 simp only at hyw hTE hA0
 have hA : A.o.length + A.l.length ≤ 2 := by rw [hA0]; exact acOf_len x0
 refine go ?_
 let W : Wd := ⟨W1, W2, W3, W4, W5, t0, t1, t2, t3, [], 0, 0⟩
 refine Wp.ent (P' := own (rR ptC 1) s' (ts.map Prod.fst) :: own rWd b W :: own rView W1 vw0 :: own (rAll rTA) 0 ts :: own rC W2 (wiC ⟨[], [], []⟩) :: own rC W3 (tkC ⟨-1, false, -1⟩) :: own rC W5 (vaC ⟨p, l, 1⟩) :: own rC l (lgC ⟨p, 1, (natL 0).length + 8⟩) :: own rDisk p (dkS (natL 0)) :: []) .refl ?_
 refine Wp.row (s := s') fun qs => ?_
 have hsl := qs.len
 rw [List.length_map] at hsl
 refine Wp.ixC0 (j := 0) (x := a) rfl (by rw [List.getElem?_map, h00]; rfl) rfl fun _ _ => ?_
 refine go ?_
 refine commit_New_v (a := a) (by decide) fun c => ?_
 refine Wp.ent (Ent.out1 (r := rTA) (u := 0) h00) ?_
 refine Wp.open rTA a fun _ _ => ?_
 let F0 : List HP := own (rR ptC 1) s' (ts.map Prod.fst) :: own (rAll rTA) 0 (ts.eraseIdx 0) :: []
 refine Wp.jn (Wp.mono (Q' := fun lf P' => lf = .norm [] ∧ ∃ T : Tk, (T.h = -1 ∨ T.h = 0) ∧ T.c = -1 ∧ P' = own rC c (cmC 0 a 0) :: own rTry a y :: own rActs y.ac A :: wpP b l p W { cst0 with tk := T } F0) (Wp.cl ?_) ?_)
 ·refine go ⟨fun _ => ?_, fun _ => ?_⟩
  ·refine world_Token_e (w := W) (tt := W3) rfl ?_
   refine go ?_
   refine token_Take_v (t := ⟨-1, false, -1⟩) ?_
   refine go ?_
   exact Wp.ret ⟨_, ⟨rfl, _, .inr rfl, rfl, rfl⟩, .cons rfl (.cons rfl (.cons rfl (.cons rfl (.cons rfl (.cons rfl (.cons rfl (.cons rfl (.cons rfl (.cons rfl (.cons rfl (.cons rfl .refl)))))))))))⟩
  ·exact Wp.ret ⟨_, ⟨rfl, ⟨-1, false, -1⟩, .inl rfl, rfl, rfl⟩, .cons rfl (.cons rfl (.cons rfl (.cons rfl (.cons rfl (.cons rfl (.cons rfl (.cons rfl (.cons rfl (.cons rfl (.cons rfl (.cons rfl .refl)))))))))))⟩
 rintro lf P' ⟨rfl, T, hTh, hTc, rfl⟩
 have hAB : AB { cst0 with tk := T } 0 0 := ⟨⟨cst0_inv.v, cst0_inv.c, cst0_inv.wi, cst0_inv.D, cst0_inv.dw, cst0_inv.n1, cst0_inv.z, cst0_inv.b, cst0_inv.f⟩, by decide, rfl, rfl, rfl, hTh, .inl hTc⟩
 refine go ?_
 refine Wp.blk (Wp.mono (Q' := fun lf P' => lf = .exit 0 [] ∧ ∃ (i : Nat) (st : CSt) (ph : Int), AB st ph i ∧ P' = own rC c (cmC 0 a ph) :: own rTry a y :: own rActs y.ac A :: wpP b l p W st F0)
  (Wp.loop (fun kk vs P' => ∃ (i : Nat) (st : CSt) (ph : Int), kk = 20 - i ∧ i ≤ 20 ∧ vs = [I i] ∧ AB st ph i ∧ P' = own rC c (cmC 0 a ph) :: own rTry a y :: own rActs y.ac A :: wpP b l p W st F0) 20 ⟨0, _, 0, rfl, by decide, rfl, hAB, rfl⟩ ?_) ?_)
 ·rintro kk vs P' ⟨i, st, ph, hk, hi, rfl, hab, rfl⟩
  have hps := hab.ph
  refine go ⟨fun c3 => ?_, fun c3 => ?_⟩
  ·refine commit_Decided_v (i := 0) (a := a) ?_
   refine go ⟨fun c4 => ?_, fun _ => Wp.ret ⟨rfl, i, st, ph, hab, rfl⟩⟩
   have hp3 : ph < 3 := by simpa using c4
   refine commit_stepS_v (n := n + 1) (k := wrN ph) (m := i) (c := c) (a := a) (x := y) (A := A) (W := W) hab.inv (by unfold wrN; split <;> omega) (by omega) hTE hA hyw ⟨hps.1, by omega⟩ ?_
   refine go ?_
   have hi2 : (i : Int) < 20 := by
    cases hq : decide (20 < k) with
    | true => rw [hq] at c3; exact c3
    | false =>
     rw [hq] at c3
     have c3 : (i : Int) < k := c3
     have hq : ¬ 20 < k := by simpa using hq
     omega
   exact ⟨19 - i, by omega, i + 1, _, _, by omega, by omega, by rw [wr_small (by omega) (by omega)]; rfl, hab.step hp3 (by omega) hTE hA, rfl⟩
  ·exact Wp.ret ⟨rfl, i, st, ph, hab, rfl⟩
 rintro lf P' ⟨rfl, i, st, ph, hab, rfl⟩
 refine go ?_
 refine commit_Decided_v (i := 0) (a := a) ?_
 refine go ⟨fun _ => rfl, fun c4 => ?_⟩
 obtain ⟨hinv, hps, hv, hwi, hb, hth, htc⟩ := hab
 obtain ⟨sb, sf, stk, sv, swi, sz, sD⟩ := st
 simp only at hv hwi hb hth htc
 subst hv hwi hb
 refine Wp.ent (P' := own (rR ptC 1) s' (ts.map Prod.fst) :: own rWd b { W with b := 0, f := sf } :: own rC W3 (tkC stk) :: own (rAll rTA) 0 ts :: own rView W1 vw0 :: own rC W2 (wiC ⟨[], [], []⟩) :: [])
  (.cons rfl (.cons rfl (.cons rfl (Ent.back1 h00 (.fold () trivial (.cons rfl (.cons rfl (.pick (.cons rfl (.cons rfl .tail)))))))))) ?_
 refine Wp.forL (σ := Wd × Tk) ts.length (by omega) (by omega) (fun _ i => [I i, I i]) (out := fun _ => []) (fun _ _ => rfl)
  (fun i z => talE z.1 (fun k => sumX (xs.drop i) k) ∧ z.1.ns.length = i ∧ z.1.v = W1 ∧ z.1.w = W2 ∧ z.1.t = W3 ∧ z.1.b = 0 ∧ ((i = 0 ∧ (z.2.h = -1 ∨ z.2.h = 0) ∧ (z.2.c = -1 ∨ z.2.c = 0)) ∨ (0 < i ∧ z.2.h = -1 ∧ z.2.c = -1)))
  (fun i z => own (rR ptC 1) s' (ts.map Prod.fst) :: own rWd b z.1 :: own rC W3 (tkC z.2) :: own (rAll rTA) 0 ts :: own rView W1 vw0 :: own rC W2 (wiC ⟨[], [], []⟩) :: [])
  ({ W with b := 0, f := sf }, stk) rfl ⟨ht.eq fun k => by simp, rfl, rfl, rfl, rfl, rfl, .inl ⟨rfl, hth, htc⟩⟩ .refl ?_ ?_
 ·rintro i ⟨w, T'⟩ hi ⟨z1, z2, z3, z4, z5, z6, z7⟩
  simp only at z1 z2 z3 z4 z5 z6 z7
  subst z3 z4 z5
  obtain ⟨⟨ai, yi, Ai⟩, hi0⟩ : ∃ e, ts[i]? = some e := ⟨_, List.getElem?_eq_getElem hi⟩
  obtain ⟨x, hx, hyi, hTi, hAi⟩ := hall i _ hi0
  simp only at hyi hTi hAi
  subst hAi
  have hxm : x ∈ xs := List.mem_of_getElem? hx
  refine Wp.ixC0 (j := i) (x := ai) rfl (by rw [List.getElem?_map, hi0]; rfl) rfl fun _ _ => ?_
  refine go ?_
  refine Wp.ent (Ent.out1 (r := rTA) (u := 0) hi0) ?_
  refine Wp.open rTA ai fun _ _ => ?_
  have hpl : (acOf x).p.length = if 0 ≤ x.tally ∧ x.tally < 4 then 1 else 0 := by
   unfold acOf; simp only; split <;> rfl
  have hul : (undoL (acOf x).p).length = if 0 ≤ x.tally ∧ x.tally < 4 then 1 else 0 := by unfold undoL; simpa using hpl
  refine Wp.ent (P' := own rWd b w :: own rC w.t (tkC T') :: own rTry ai yi :: own rActs yi.ac (acOf x) :: own (rR ptC 1) s' (ts.map Prod.fst) :: own (rAll rTA) 0 (ts.eraseIdx i) :: own rView w.v vw0 :: own rC w.w (wiC ⟨[], [], []⟩) :: [])
   (.cons rfl (.cons rfl (.cons rfl (.cons rfl (.cons rfl (.cons rfl (.cons rfl (.cons rfl .tail)))))))) ?_
  refine commit_Abort_v (n := n + 1) (i := (i : Int)) (x := yi) (ac := acOf x) (by rw [hpl]; split <;> omega) (by rw [z2]; simp [acOf]; omega) fun s4 => ?_
  refine go ?_
  have hlen : xs.length ≤ 6 := hc.1
  refine Wp.mono (Q' := fun lf P'' => ∃ bb : Bool, lf = .norm [.bool bb] ∧ (bb = true ↔ 0 ≤ x.tally ∧ x.tally < 4) ∧ P'' = own (rR opC 2) s4 (undoL (acOf x).p) :: own rWd b (w.undone i (acOf x)) :: own rC w.t (tkC ((T'.unlock i).drop i)) :: own rTry ai yi :: own rActs yi.ac (acOf x) :: own (rR ptC 1) s' (ts.map Prod.fst) :: own (rAll rTA) 0 (ts.eraseIdx i) :: own rView w.v vw0 :: own rC w.w (wiC ⟨[], [], []⟩) :: []) ?_ ?_
  ·refine Wp.ixRoC (x := x) (k := 5) rfl hx rfl fun _ _ => ?_
   refine go ⟨fun c5 => ?_, fun c5 => ?_⟩
   ·refine Wp.ixRoC (x := x) (k := 5) rfl hx rfl fun _ _ => ?_
    refine go ?_
    exact Wp.ret ⟨_, rfl, by simp; omega, rfl⟩
   ·exact Wp.ret ⟨false, rfl, by simp at c5 ⊢; omega, rfl⟩
  rintro lf P' ⟨bb, rfl, hbb, rfl⟩
  refine Wp.row (s := s4) fun q4 => ?_
  have g4 := q4.len
  refine Wp.jn (Wp.mono (Q' := fun lf P'' => lf = .norm [I ((undoL (acOf x).p).length)] ∧ P'' = own (rR opC 2) s4 (undoL (acOf x).p) :: own rWd b (w.undone i (acOf x)) :: own rC w.t (tkC ((T'.unlock i).drop i)) :: own rTry ai yi :: own rActs yi.ac (acOf x) :: own (rR ptC 1) s' (ts.map Prod.fst) :: own (rAll rTA) 0 (ts.eraseIdx i) :: own rView w.v vw0 :: own rC w.w (wiC ⟨[], [], []⟩) :: []) ?_ ?_)
  ·refine go ⟨fun c5 => ?_, fun c5 => ?_⟩
   ·exact Wp.ret ⟨by rw [hul, if_pos (hbb.1 c5)]; rfl, rfl⟩
   ·exact Wp.ret ⟨by rw [hul, if_neg (fun q => by rw [hbb.2 q] at c5; cases c5)]; rfl, rfl⟩
  rintro lf P' ⟨rfl, rfl⟩
  have hns : (w.undone i (acOf x)).ns = w.ns ++ [((i : Int), x.note)] := by
   unfold Wd.undone
   simp only
   rw [(Wd.add_rest _ w).2.1]; rfl
  refine go ?_
  refine world_Notes_v (w := w.undone i (acOf x)) (by rw [hns]; simp; omega) fun s5 => ?_
  rw [hns]
  refine Wp.row (s := s5) fun q5 => ?_
  have g5 := q5.len
  refine go ⟨fun c5 => ?_, fun c5 => ⟨fun c6 => ?_, fun c6 => ?_⟩⟩
  ·exact absurd (show ((s4.len : Int)) = ((undoL (acOf x).p).length : Int) by rw [g4]) (by simpa using c5)
  ·refine absurd c6 ?_
   rw [g5, wr_small (by omega) (by omega)]
   simp [z2]
  have hat : (w.ns ++ [((i : Int), x.note)])[i]? = some ((i : Int), x.note) := by
   rw [List.getElem?_append_right (by omega), z2, Nat.sub_self]; rfl
  refine Wp.ixC0 (j := i) (x := ((i : Int), x.note)) rfl hat rfl fun _ _ => ?_
  refine go ?_
  refine Wp.ixC (j := i) (k := 1) (x := ((i : Int), x.note)) rfl hat rfl fun _ _ => ?_
  refine go ?_
  refine Wp.ixRoC (x := x) (k := 4) rfl hx rfl fun _ _ => ?_
  refine go ?_
  have hrest := Wd.add_rest (undoL (acOf x).p) w
  have hsx : ∀ k, sumX (xs.drop i) k = talX x k + sumX (xs.drop (i + 1)) k := fun k => by
   rw [List.drop_eq_getElem_cons (by omega : i < xs.length)]
   have : xs[i] = x := by rw [List.getElem?_eq_getElem (by omega)] at hx; exact Option.some.inj hx
   rw [this]; rfl
  have hso := fun k => sumX_ok (xs := xs.drop i) (fun y hy => hc.2.2 y (List.mem_of_mem_drop hy)) k
  have hdl : (xs.drop i).length ≤ 6 := by simp; omega
  refine ⟨(w.undone i (acOf x), (T'.unlock i).drop i), rfl, ⟨?_, ?_, hrest.2.2.1, hrest.2.2.2.1, hrest.1, ?_, ?_⟩, .cons rfl (.cons rfl (.cons rfl (Ent.back1 hi0 (.fold () trivial (.cons rfl (.cons rfl (.pick (.cons rfl (.cons rfl .tail)))))))))⟩
  ·refine (z1.undo (i := (i : Int)) (fun k => by have := hso k; omega) (hc.2.2 x hxm)).eq fun k => ?_
   rw [hsx]; omega
  ·rw [hns]; simp [z2]
  ·exact hrest.2.2.2.2.2.1.trans z6
  ·rcases z7 with ⟨rfl, h1, h2⟩ | ⟨h0, h1, h2⟩
   ·have := Tk.gone h1 h2
    exact .inr ⟨by omega, this.1, this.2⟩
   ·have := Tk.gone' (i := (i : Int)) (by omega) h1 h2
    exact .inr ⟨by omega, this.1, this.2⟩
 ·rintro ⟨w, T'⟩ ⟨z1, z2, z3, z4, z5, z6, z7⟩
  simp only at z1 z2 z3 z4 z5 z6 z7
  subst z3 z4 z5
  rw [hln, List.drop_length] at z1
  obtain ⟨y0, y1, y2, y3⟩ := z1
  simp only [sumX] at y0 y1 y2 y3
  rcases z7 with ⟨h0, _⟩ | ⟨_, th, tc⟩
  ·omega
  refine go ?_
  refine things_v (w := w) (v := vw0) rfl vw0P.ok ?_
  refine go ?_
  refine Wp.gxN (vs := thC vw0) (by decide) (by rfl) ?_
  refine Wp.eqM (b := true) (by kernel_rfl) ?_
  refine go ?_
  refine world_Tallies_v (w := w) ?_
  rw [y0, y1, y2, y3]
  refine go ?_
  refine Wp.eqM (b := true) (by rfl) ?_
  refine go ?_
  refine world_Wire_v (w := w) ?_
  refine go ?_
  refine wire_All_v (x := ⟨[], [], []⟩) (n := 0) ⟨by simp, by simp, by simp⟩ (by decide) ?_
  refine go ?_
  refine world_Wire_v (w := w) ?_
  refine go ?_
  refine wire_All_v (x := ⟨[], [], []⟩) (n := 0) ⟨by simp, by simp, by simp⟩ (by decide) ?_
  refine go ?_
  have e0 : (Wi.all ⟨[], [], []⟩ 0) = [] := rfl
  have e1 : (Wi.all ⟨[], [], []⟩ 1) = [] := rfl
  have e2 : (Wi.all ⟨[], [], []⟩ 2) = [] := rfl
  rw [e0, e1]
  refine ⟨by decide, ?_⟩
  refine world_Wire_v (w := w) ?_
  refine go ?_
  refine wire_All_v (x := ⟨[], [], []⟩) (n := 0) ⟨by simp, by simp, by simp⟩ (by decide) ?_
  rw [e2]
  have eS : S [] ++ S [] ++ S [] = ByteArray.mk #[] := by rfl
  refine go ⟨by decide, fun _ => ?_, fun q => by rw [eS] at q; simp at q⟩
  refine world_Token_v (w := w) ?_
  refine go ?_
  refine token_Free_v (t := T') ?_
  rw [Tk.free_of (by decide) th tc]
  refine go ?_
  refine world_Token_v (w := w) ?_
  refine go ?_
  refine token_Free_v (t := T') ?_
  rw [Tk.free_of (by decide) th tc]
  refine go ?_
  refine world_Blocks_v (w := w) ?_
  rw [z6]
  exact go rfl
end
end Go.Proofs.YtbphjihgbenkdaaGreat.HM
