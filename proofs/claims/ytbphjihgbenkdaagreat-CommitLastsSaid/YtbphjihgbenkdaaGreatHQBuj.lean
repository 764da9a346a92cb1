/- Lemmas for the row. Conditions: none. -/
import Derived.Test.YtbphjihgbenkdaaGreatHQBuh
namespace Go.Proofs.YtbphjihgbenkdaaGreat.HQ
set_option linter.unusedVariables false
set_option linter.unusedSectionVars false
set_option linter.unusedSimpArgs false
open Go
abbrev alls {κ γ : Type} (r : κ → γ → HP) (xs : List (κ × γ)) : List HP := xs.map fun y => own r y.1 y.2
theorem erase_perm {α : Type} {xs : List α} : ∀ {i : Nat} {x : α}, xs[i]? = some x → xs.Perm (x :: xs.eraseIdx i) := by
 induction xs with
 | nil => intro i x h; simp at h
 | cons a xs ih =>
  intro i x h
  cases i with
  | zero => simp at h; subst h; exact .refl _
  | succ i =>
   simp at h
   exact ((ih h).cons a).trans (.swap _ _ _)
theorem set_erase {α : Type} {xs : List α} {x' : α} : ∀ {i : Nat}, i < xs.length → (x' :: xs.eraseIdx i).Perm (xs.set i x') := by
 induction xs with
 | nil => intro i h; simp at h
 | cons a xs ih =>
  intro i h
  cases i with
  | zero => exact .refl _
  | succ i => exact (List.Perm.swap _ _ _).trans ((ih (by simpa using h)).cons a)
section
variable {α κ γ : Type} {H0 : Heap} {F : List HP} {r : κ → γ → HP} {xs : List (κ × γ)} {i : Nat} {k : κ} {x x' : γ} {m : M α} {Q : α → List HP → Prop}
theorem Ent.out (h : xs[i]? = some (k, x)) : Ent (alls r xs ++ F) (own r k x :: (alls r (xs.eraseIdx i) ++ F)) :=
 Ent.perm (((erase_perm h).map fun y : κ × γ => own r y.1 y.2).append_right F)
theorem Ent.inn (h : xs[i]? = some (k, x)) : Ent (own r k x' :: (alls r (xs.eraseIdx i) ++ F)) (alls r (xs.set i (k, x')) ++ F) :=
 Ent.perm (((set_erase (x' := (k, x')) (List.getElem?_eq_some_iff.1 h).1).map fun y : κ × γ => own r y.1 y.2).append_right F)
theorem Ent.back' (h : xs[i]? = some (k, x)) : Ent (own r k x :: (alls r (xs.eraseIdx i) ++ F)) (alls r xs ++ F) :=
 Ent.perm (((erase_perm h).map fun y : κ × γ => own r y.1 y.2).append_right F).symm
end
def rTA (p : Nat) (y : TrS × Ac) : HP := fun h => Al [own rTry p y.1, own rActs y.1.ac y.2] h
instance {p : Nat} {y : TrS × Ac} : Opn rTA p y Unit (fun _ => True) (fun _ F => own rTry p y.1 :: own rActs y.1.ac y.2 :: F) :=
 ⟨fun _ => ⟨fun h => ⟨(), trivial, h⟩, fun ⟨_, _, h⟩ => h⟩, fun _ _ => rfl⟩
class RoR (H0 : Heap) (s : Sl) (γ : outParam Type) (f : outParam (γ → List HV)) (sz : outParam Nat) (xs : outParam (List γ)) : Prop where
 h : SlR H0 s sz (xs.map f)
theorem Wp.ixRo {α γ : Type} {H0 : Heap} {P : List HP} {Q : α → List HP → Prop} {s : Sl} {f : γ → List HV} {sz : Nat} {xs : List γ} {i : Int} {j : Nat} {x : γ} {g : Nat → Nat → List HV → M α} [r : RoR H0 s γ f sz xs] (hj : i = (j : Int)) (hi : xs[j]? = some x) (h : ∀ b o, Wp H0 P (g b o (f x)) Q) : Wp H0 P (HQ.ix s i sz fun b o => HQ.ldN b o sz fun cs => g b o cs) Q := fun H hH => by
 subst hj
 exact wp_ixN (SlR.keeps r.h hH.kp.k) (by omega) (by simp [hi]) fun b o => h b o H hH
theorem RoR.len {γ : Type} {H0 : Heap} {s : Sl} {f : γ → List HV} {sz : Nat} {xs : List γ} (r : RoR H0 s γ f sz xs) : s.len = xs.length := by have := r.h.len; simpa using this
abbrev ptC (p : Nat) : List HV := [.ptr (some (p, 0))]
def acOf (x : TyA) : Ac := ⟨if 0 ≤ x.sock ∧ x.sock < 3 then [(x.sock, x.by_)] else [], if 0 ≤ x.sock ∧ x.sock < 3 then [(x.sock, x.la)] else [], [x.note], if 0 ≤ x.tally ∧ x.tally < 4 then [(x.tally, x.delta)] else []⟩
def wdOf (w : Wd) (x : TyA) : Wd := w.add ((undoL (acOf x).p).map negO)
def wdsOf (w : Wd) (xs : List TyA) : Wd := xs.foldl wdOf w
theorem wdsOf_v (xs : List TyA) : ∀ w : Wd, (wdsOf w xs).v = w.v := by
 induction xs with
 | nil => intro w; rfl
 | cons x xs ih => intro w; show (wdsOf (wdOf w x) xs).v = _; rw [ih]; exact (Wd.add_rest _ _).2.2.1
theorem wdsOf_snoc {w : Wd} {xs : List TyA} {i : Nat} {x : TyA} (h : xs[i]? = some x) : wdsOf w (xs.take (i + 1)) = wdOf (wdsOf w (xs.take i)) x := by
 unfold wdsOf
 rw [List.take_add_one, h, List.foldl_append]; rfl
theorem alls_snoc {κ γ : Type} {r : κ → γ → HP} {xs : List (κ × γ)} {k : κ} {x : γ} {F : List HP} : Ent (own r k x :: (alls r xs ++ F)) (alls r (xs ++ [(k, x)]) ++ F) := by
 refine Ent.perm ?_
 have e : alls r (xs ++ [(k, x)]) ++ F = alls r xs ++ (own r k x :: F) := by simp
 rw [e]
 exact List.perm_middle.symm
section
variable {H0 : Heap} {P F : List HP} {Q : HV → List HP → Prop} [Sea] [SeaOk] [SeaUndo] {n : Nat}
omit [SeaUndo] in
theorem deeds_v {Q : Leaf → List HP → Prop} {id : Nat} {K : List HV → M Leaf} {a : Nat} {s : Sl} {y : TrS} {v : Vw} {l : List Dee} [r : RoR H0 s Dee deC 4 l] (hv : VwP v) (ht : TOk v y.t) (hl : l.length ≤ 1000000)
  (h : Wp H0 (own rTry a { y with t := dosT v y.t l } :: own rView y.w v :: F) (K []) Q) :
  Wp H0 (own rTry a y :: own rView y.w v :: F) (HQ.blk id (loopD (fun vs_3 => uI .i64 vs_3 fun x26 r_13 => nl r_13 (cond (decide (x26 < (s.len : Int))) (
   ix s x26 4 fun x28b x28o => ldN x28b x28o 4 fun x29l => uI .i64 x29l fun x29c0 r_14 => uI .i64 r_14 fun x29c1 r_15 => uI .i64 r_15 fun x29c2 r_16 => uI .u8 r_16 fun x29c3 r_17 => nl r_17 (
   bnd (f_law22_does (lv (n + 1)) [.ptr (some (a, 0)), .agg [I x29c0, I x29c1, I x29c2, .int .u8 x29c3]]) fun r_18 => asT r_18 fun x32l => nl x32l (ret (.norm [I (wr (x26 + 1))])))) (ret (.exit id [])))) [I 0]) K) Q := by
 have hlen := r.len
 refine Wp.forL (σ := Unit) l.length (by omega) (by omega) (fun _ i => [I i]) (out := fun _ => []) (fun _ _ => rfl) (fun _ _ => True)
  (fun i _ => own rTry a { y with t := dosT v y.t (l.take i) } :: own rView y.w v :: F) () rfl trivial .refl ?_ ?_
 ·intro i _ hi _
  have hx : l[i]? = some l[i] := List.getElem?_eq_getElem hi
  generalize l[i] = d at hx
  refine Wp.ixRo (x := d) rfl hx fun _ _ => ?_
  refine go ?_
  refine law22_does_v (v := v) (d := d) hv (dosT_ok hv ht) ?_
  refine go ?_
  exact ⟨(), rfl, trivial, .cons (by rw [dosT_snoc hx]) .refl⟩
 ·intro _ _
  rw [List.take_length]
  exact h
def BegP (v : Vw) (vp : Nat) (ls : TyA → List Dee) (xs : List TyA) (ts : List (Nat × (TrS × Ac))) : Prop :=
 ts.length = xs.length ∧ ∀ (j : Nat) (x : TyA) (e : Nat × (TrS × Ac)), xs[j]? = some x → ts[j]? = some e → e.2.1.w = vp ∧ e.2.1.t = dosT v (tri0 v.clock (0, 0, 0, 0)) (ls x) ∧ e.2.2 = acOf x
omit [Sea] [SeaOk] [SeaUndo] in
theorem BegP.snoc {v : Vw} {vp : Nat} {ls : TyA → List Dee} {xs : List TyA} {ts : List (Nat × (TrS × Ac))} {i : Nat} {x : TyA} {e : Nat × (TrS × Ac)} (hp : BegP v vp ls (xs.take i) ts) (hx : xs[i]? = some x)
  (he : e.2.1.w = vp ∧ e.2.1.t = dosT v (tri0 v.clock (0, 0, 0, 0)) (ls x) ∧ e.2.2 = acOf x) : BegP v vp ls (xs.take (i + 1)) (ts ++ [e]) := by
 have hi := (List.getElem?_eq_some_iff.1 hx).1
 have e1 : xs.take (i + 1) = xs.take i ++ [x] := by rw [List.take_add_one, hx]; rfl
 rw [e1]
 refine ⟨by simp [hp.1], fun j y z h1 h2 => ?_⟩
 have hl := hp.1
 by_cases c : j < ts.length
 ·rw [List.getElem?_append_left c] at h2
  rw [List.getElem?_append_left (by omega)] at h1
  exact hp.2 j y z h1 h2
 ·rw [List.getElem?_append_right (by omega)] at h1 h2
  have hj : j - ts.length = 0 := by
   rcases Nat.eq_zero_or_pos (j - ts.length) with q | q
   ·exact q
   ·rw [List.getElem?_eq_none (by simp; omega)] at h2; cases h2
  rw [hj] at h2
  rw [← hl, hj] at h1
  simp at h1 h2
  subst h1 h2
  exact he
omit [Sea] [SeaOk] [SeaUndo] in
end
end Go.Proofs.YtbphjihgbenkdaaGreat.HQ
