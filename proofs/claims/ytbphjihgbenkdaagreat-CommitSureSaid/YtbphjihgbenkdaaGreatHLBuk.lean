/- A row of things in pieces: one of them taken out, and put back. Conditions: none. -/
import Derived.Test.YtbphjihgbenkdaaGreatHLBuh
namespace Go.Proofs.YtbphjihgbenkdaaGreat.HL
open Go

/-- all of these. -/
abbrev alls {κ γ : Type} (r : κ → γ → HP) (xs : List (κ × γ)) : List HP := xs.map fun y => own r y.1 y.2
theorem erase_perm {α : Type} {xs : List α} : ∀ {i : Nat} {x : α}, xs[i]? = some x → xs.Perm (x :: xs.eraseIdx i) := by
  induction xs with
  | nil => intro i x h; simp at h
  | cons a xs ih =>
    intro i x h
    cases i with
    | zero => simp at h; subst h; exact .refl _
    | succ i =>
      simp at h
      exact ((ih h).cons a).trans (.swap _ _ _)
section
variable {α κ γ : Type} {H0 : Heap} {F : List HP} {r : κ → γ → HP} {xs : List (κ × γ)} {i : Nat} {k : κ} {x x' : γ} {m : M α} {Q : α → List HP → Prop}
theorem Ent.out (h : xs[i]? = some (k, x)) : Ent (alls r xs ++ F) (own r k x :: (alls r (xs.eraseIdx i) ++ F)) :=
  Ent.perm (((erase_perm h).map fun y : κ × γ => own r y.1 y.2).append_right F)
end
/-- a try and its acts. -/
def rTA (p : Nat) (y : TrS × Ac) : HP := fun h => Al [own rTry p y.1, own rActs y.1.ac y.2] h
instance {p : Nat} {y : TrS × Ac} : Opn rTA p y Unit (fun _ => True) (fun _ F => own rTry p y.1 :: own rActs y.1.ac y.2 :: F) :=
  ⟨fun _ => ⟨fun h => ⟨(), trivial, h⟩, fun ⟨_, _, h⟩ => h⟩, fun _ _ => rfl⟩
end Go.Proofs.YtbphjihgbenkdaaGreat.HL
namespace Go.Proofs.YtbphjihgbenkdaaGreat.HL
open Go

/-- a row that came in. -/
class RoR (H0 : Heap) (s : Sl) (γ : outParam Type) (f : outParam (γ → List HV)) (sz : outParam Nat) (xs : outParam (List γ)) : Prop where
  h : SlR H0 s sz (xs.map f)
theorem Wp.ixRo {α γ : Type} {H0 : Heap} {P : List HP} {Q : α → List HP → Prop} {s : Sl} {f : γ → List HV} {sz : Nat} {xs : List γ} {i : Int} {j : Nat} {x : γ} {g : Nat → Nat → List HV → M α} [r : RoR H0 s γ f sz xs] (hj : i = (j : Int)) (hi : xs[j]? = some x) (h : ∀ b o, Wp H0 P (g b o (f x)) Q) : Wp H0 P (HL.ix s i sz fun b o => HL.ldN b o sz fun cs => g b o cs) Q := fun H hH => by
  subst hj
  exact wp_ixN (SlR.keeps r.h hH.kp.k) (by omega) (by simp [hi]) fun b o => h b o H hH
theorem RoR.len {γ : Type} {H0 : Heap} {s : Sl} {f : γ → List HV} {sz : Nat} {xs : List γ} (r : RoR H0 s γ f sz xs) : s.len = xs.length := by have := r.h.len; simpa using this
abbrev ptC (p : Nat) : List HV := [.ptr (some (p, 0))]
/-- the acts of a try, as it came in. -/
def acOf (x : TyA) : Ac := ⟨if 0 ≤ x.sock ∧ x.sock < 3 then [(x.sock, x.by_)] else [], if 0 ≤ x.sock ∧ x.sock < 3 then [(x.sock, x.la)] else [], [x.note], if 0 ≤ x.tally ∧ x.tally < 4 then [(x.tally, x.delta)] else []⟩
/-- tallies, as a try opened them. -/
def wdOf (w : Wd) (x : TyA) : Wd := w.add ((undoL (acOf x).p).map negO)
def wdsOf (w : Wd) (xs : List TyA) : Wd := xs.foldl wdOf w
theorem wdsOf_v (xs : List TyA) : ∀ w : Wd, (wdsOf w xs).v = w.v := by
  induction xs with
  | nil => intro w; rfl
  | cons x xs ih => intro w; show (wdsOf (wdOf w x) xs).v = _; rw [ih]; exact (Wd.add_rest _ _).2.2.1
theorem wdsOf_snoc {w : Wd} {xs : List TyA} {i : Nat} {x : TyA} (h : xs[i]? = some x) : wdsOf w (xs.take (i + 1)) = wdOf (wdsOf w (xs.take i)) x := by
  unfold wdsOf
  rw [List.take_add_one, h, List.foldl_append]; rfl
theorem alls_snoc {κ γ : Type} {r : κ → γ → HP} {xs : List (κ × γ)} {k : κ} {x : γ} {F : List HP} : Ent (own r k x :: (alls r xs ++ F)) (alls r (xs ++ [(k, x)]) ++ F) := by
  refine Ent.perm ?_
  have e : alls r (xs ++ [(k, x)]) ++ F = alls r xs ++ (own r k x :: F) := by simp
  rw [e]
  exact List.perm_middle.symm
section
variable {H0 : Heap} {P F : List HP} {Q : HV → List HP → Prop} [Sea] [SeaOk] [SeaUndo] {n : Nat}
omit [SeaUndo] in
/-- one deed after another. -/
theorem deeds_v {Q : Leaf → List HP → Prop} {id : Nat} {K : List HV → M Leaf} {a : Nat} {s : Sl} {y : TrS} {v : Vw} {l : List Dee} [r : RoR H0 s Dee deC 4 l] (hv : VwP v) (ht : TOk v y.t) (hl : l.length ≤ 1000000)
    (h : Wp H0 (own rTry a { y with t := dosT v y.t l } :: own rView y.w v :: F) (K []) Q) :
    Wp H0 (own rTry a y :: own rView y.w v :: F) (HL.blk id (loopD (fun vs_3 => uI .i64 vs_3 fun x26 r_13 => nl r_13 (cond (decide (x26 < (s.len : Int))) (
      ix s x26 4 fun x28b x28o => ldN x28b x28o 4 fun x29l => uI .i64 x29l fun x29c0 r_14 => uI .i64 r_14 fun x29c1 r_15 => uI .i64 r_15 fun x29c2 r_16 => uI .u8 r_16 fun x29c3 r_17 => nl r_17 (
      bnd (f_law22_does (lv (n + 1)) [.ptr (some (a, 0)), .agg [I x29c0, I x29c1, I x29c2, .int .u8 x29c3]]) fun r_18 => asT r_18 fun x32l => nl x32l (ret (.norm [I (wr (x26 + 1))])))) (ret (.exit id [])))) [I 0]) K) Q := by
  have hlen := r.len
  refine Wp.forL (σ := Unit) l.length (by omega) (by omega) (fun _ i => [I i]) (out := fun _ => []) (fun _ _ => rfl) (fun _ _ => True)
    (fun i _ => own rTry a { y with t := dosT v y.t (l.take i) } :: own rView y.w v :: F) () rfl trivial .refl ?_ ?_
  · intro i _ hi _
    have hx : l[i]? = some l[i] := List.getElem?_eq_getElem hi
    generalize l[i] = d at hx
    refine Wp.ixRo (x := d) rfl hx fun _ _ => ?_
    refine go ?_
    refine law22_does_v (v := v) (d := d) hv (dosT_ok hv ht) ?_
    refine go ?_
    exact ⟨(), rfl, trivial, .cons (by rw [dosT_snoc hx]) .refl⟩
  · intro _ _
    rw [List.take_length]
    exact h
/-- what begun tries are. -/
def BegP (v : Vw) (vp : Nat) (ls : TyA → List Dee) (xs : List TyA) (ts : List (Nat × (TrS × Ac))) : Prop :=
  ts.length = xs.length ∧ ∀ (j : Nat) (x : TyA) (e : Nat × (TrS × Ac)), xs[j]? = some x → ts[j]? = some e → e.2.1.w = vp ∧ e.2.1.t = dosT v (tri0 v.clock (0, 0, 0, 0)) (ls x) ∧ e.2.2 = acOf x
omit [Sea] [SeaOk] [SeaUndo] in
theorem BegP.snoc {v : Vw} {vp : Nat} {ls : TyA → List Dee} {xs : List TyA} {ts : List (Nat × (TrS × Ac))} {i : Nat} {x : TyA} {e : Nat × (TrS × Ac)} (hp : BegP v vp ls (xs.take i) ts) (hx : xs[i]? = some x)
    (he : e.2.1.w = vp ∧ e.2.1.t = dosT v (tri0 v.clock (0, 0, 0, 0)) (ls x) ∧ e.2.2 = acOf x) : BegP v vp ls (xs.take (i + 1)) (ts ++ [e]) := by
  have hi := (List.getElem?_eq_some_iff.1 hx).1
  have e1 : xs.take (i + 1) = xs.take i ++ [x] := by rw [List.take_add_one, hx]; rfl
  rw [e1]
  refine ⟨by simp [hp.1], fun j y z h1 h2 => ?_⟩
  have hl := hp.1
  by_cases c : j < ts.length
  · rw [List.getElem?_append_left c] at h2
    rw [List.getElem?_append_left (by omega)] at h1
    exact hp.2 j y z h1 h2
  · rw [List.getElem?_append_right (by omega)] at h1 h2
    have hj : j - ts.length = 0 := by
      rcases Nat.eq_zero_or_pos (j - ts.length) with q | q
      · exact q
      · rw [List.getElem?_eq_none (by simp; omega)] at h2; cases h2
    rw [hj] at h2
    rw [← hl, hj] at h1
    simp at h1 h2
    subst h1 h2
    exact he
omit [Sea] [SeaOk] [SeaUndo] in
theorem begE {p a ac st : Nat} {T : Tri} {A : Ac} {s' s : Sl} {w w2 : Wd} {v : Vw} {xs : List TyA} {ts : List (Nat × (TrS × Ac))} {vp : Nat} (hw : w = w2) :
    Ent (own (rR ptC 1) s' (ts.map Prod.fst ++ [a]) :: own rActs ac A :: own rTry a ⟨vp, ac, st, T⟩ :: own rView vp v :: own rWd p w :: own (rR tyC 7) s xs :: (alls rTA ts ++ F))
      (own (rR ptC 1) s' ((ts ++ [(a, ((⟨vp, ac, st, T⟩ : TrS), A))]).map Prod.fst) :: own rWd p w2 :: own rView vp v :: own (rR tyC 7) s xs :: (alls rTA (ts ++ [(a, ((⟨vp, ac, st, T⟩ : TrS), A))]) ++ F)) := by
  subst hw
  refine Ent.trans (P' := own (rR ptC 1) s' (ts.map Prod.fst ++ [a]) :: own rWd p w :: own rView vp v :: own (rR tyC 7) s xs :: own rTA a ((⟨vp, ac, st, T⟩ : TrS), A) :: (alls rTA ts ++ F)) ?_ ?_
  · exact Ent.head (fun _ q => q) (.cons rfl (.cons rfl (.pick (.fold () trivial (.cons rfl (.cons rfl .refl))))))
  · rw [List.map_append]
    exact Ent.head (fun _ q => q) (Ent.head (fun _ q => q) (Ent.head (fun _ q => q) (Ent.head (fun _ q => q) alls_snoc)))
theorem begun_v {p : Nat} {w : Wd} {v : Vw} {s : Sl} {xs : List TyA} {ls : TyA → List Dee} (hr : ∀ x ∈ xs, RoR H0 x.s Dee deC 4 (ls x)) (hl : ∀ x ∈ xs, (ls x).length ≤ 1000000) (hx : xs.length ≤ 1000) (hv : VwP v)
    (h : ∀ s' ts, BegP v w.v ls xs ts → Q (.sl s') (own (rR ptC 1) s' (ts.map Prod.fst) :: own rWd p (wdsOf w xs) :: own rView w.v v :: own (rR tyC 7) s xs :: (alls rTA ts ++ F))) :
    Wp H0 (own rWd p w :: own rView w.v v :: own (rR tyC 7) s xs :: F) (f_law22_begun (lv (n + 2)) [.ptr (some (p, 0)), .sl s]) Q := by
  refine Wp.cl ?_
  have hroom : room = 140737488355328 := rfl
  unfold f_law22_begun
  refine Wp.row (s := s) fun q => ?_
  have g := q.len
  refine Wp.nil ptC (sz := 1) (by decide) ?_
  refine go ?_
  refine Wp.forL (σ := Sl × List (Nat × (TrS × Ac))) xs.length (by omega) (by omega) (fun x i => [.sl x.1, I i]) (out := fun x => [.sl x.1]) (fun _ _ => rfl) (fun i x => BegP v w.v ls (xs.take i) x.2)
    (fun i x => own (rR ptC 1) x.1 (x.2.map Prod.fst) :: own rWd p (wdsOf w (xs.take i)) :: own rView w.v v :: own (rR tyC 7) s xs :: (alls rTA x.2 ++ F)) (⟨none, 0, 0, none⟩, []) rfl ⟨rfl, fun j x e hj => by simp at hj⟩ .refl ?_ ?_
  · rintro i ⟨sp, ts⟩ hi hp
    have hxi : xs[i]? = some xs[i] := List.getElem?_eq_getElem hi
    have hm : xs[i] ∈ xs := List.getElem_mem hi
    generalize xs[i] = x at hxi hm
    have hro := hr x hm
    refine Wp.ixN (x := x) rfl hxi fun _ _ => ?_
    refine go ?_
    refine world_View_e (w := wdsOf w (xs.take i)) (vv := w.v) (wdsOf_v _ _) ?_
    refine go ?_
    refine attempt_New_v (v := v) (r := (0, 0, 0, 0)) fun a ac st => ?_
    refine go ?_
    refine Wp.ent (P' := own rC ac [.sl ⟨none, 0, 0, none⟩, .sl ⟨none, 0, 0, none⟩, .sl ⟨none, 0, 0, none⟩, .sl ⟨none, 0, 0, none⟩] :: own rTry a ⟨w.v, ac, st, tri0 v.clock (0, 0, 0, 0)⟩ :: own rView w.v v :: own (rR ptC 1) sp (ts.map Prod.fst) :: own rWd p (wdsOf w (xs.take i)) :: own (rR tyC 7) s xs :: (alls rTA ts ++ F)) (.cons rfl (.cons rfl (.cons rfl (.weak (.pick (.cons rfl .refl)))))) ?_
    refine Wp.ent Ent.acts ?_
    refine Wp.ent (P' := own rTry a ⟨w.v, ac, st, tri0 v.clock (0, 0, 0, 0)⟩ :: own rView w.v v :: own rActs ac ⟨[], [], [], []⟩ :: own (rR ptC 1) sp (ts.map Prod.fst) :: own rWd p (wdsOf w (xs.take i)) :: own (rR tyC 7) s xs :: (alls rTA ts ++ F)) (.cons rfl (.cons rfl .refl)) ?_
    refine deeds_v (n := n + 1) (y := ⟨w.v, ac, st, tri0 v.clock (0, 0, 0, 0)⟩) hv (tri0_ok hv) (hl x hm) ?_
    generalize hw1 : wdsOf w (xs.take i) = w1
    refine go ?_
    refine attempt_Acts_v (x := ⟨w.v, ac, st, dosT v (tri0 v.clock (0, 0, 0, 0)) (ls x)⟩) ?_
    refine go ?_
    refine acts_Send_v (a := ⟨[], [], [], []⟩) (by simp) fun _ => ?_
    refine go ?_
    refine attempt_Acts_v (x := ⟨w.v, ac, st, dosT v (tri0 v.clock (0, 0, 0, 0)) (ls x)⟩) ?_
    refine go ?_
    refine acts_Later_v (a := ⟨(acOf x).o, [], [], []⟩) (by simp) fun _ => ?_
    refine go ?_
    refine attempt_Acts_v (x := ⟨w.v, ac, st, dosT v (tri0 v.clock (0, 0, 0, 0)) (ls x)⟩) ?_
    refine go ?_
    refine acts_Note_v (a := ⟨(acOf x).o, (acOf x).l, [], []⟩) (by simp) ?_
    refine go ?_
    refine attempt_Acts_v (x := ⟨w.v, ac, st, dosT v (tri0 v.clock (0, 0, 0, 0)) (ls x)⟩) ?_
    refine go ?_
    refine acts_Opened_v (a := ⟨(acOf x).o, (acOf x).l, (acOf x).n, []⟩) (by simp) ?_
    show Wp H0 (own rActs ac (acOf x) :: own rTry a ⟨w.v, ac, st, dosT v (tri0 v.clock (0, 0, 0, 0)) (ls x)⟩ :: own rView w.v v :: own (rR ptC 1) sp (ts.map Prod.fst) :: own rWd p w1 :: own (rR tyC 7) s xs :: (alls rTA ts ++ F)) _ _
    have htl : ts.length ≤ 1000 := by have := hp.1; simp at this; omega
    have hws : wdsOf w (xs.take (i + 1)) = wdOf w1 x := by rw [wdsOf_snoc hxi, hw1]
    refine go ⟨fun c => ?_, fun c => ?_⟩
    · have hpl : (acOf x).p.length ≤ 1 := by unfold acOf; simp only; split <;> simp
      have hul : (undoL (acOf x).p).length ≤ 1 := by unfold undoL; simpa using hpl
      refine attempt_Acts_v (x := ⟨w.v, ac, st, dosT v (tri0 v.clock (0, 0, 0, 0)) (ls x)⟩) ?_
      refine go ?_
      refine acts_Undo_v (n := n) (a := acOf x) (by omega) fun s4 => ?_
      refine go ?_
      refine Wp.row (s := s4) fun q4 => ?_
      have g4 := q4.len
      refine Wp.forL (σ := Unit) (undoL (acOf x).p).length (by omega) (by omega) (fun _ i => [I i]) (out := fun _ => []) (fun _ _ => rfl) (fun _ _ => True)
        (fun j _ => own (rR opC 2) s4 (undoL (acOf x).p) :: own rActs ac (acOf x) :: own rTry a ⟨w.v, ac, st, dosT v (tri0 v.clock (0, 0, 0, 0)) (ls x)⟩ :: own rView w.v v :: own (rR ptC 1) sp (ts.map Prod.fst) :: own rWd p (w1.add (((undoL (acOf x).p).take j).map negO)) :: own (rR tyC 7) s xs :: (alls rTA ts ++ F)) () rfl trivial .refl ?_ ?_
      · intro j _ hj _
        have hxj : (undoL (acOf x).p)[j]? = some (undoL (acOf x).p)[j] := List.getElem?_eq_getElem hj
        generalize (undoL (acOf x).p)[j] = o at hxj
        have hadd : w1.add (((undoL (acOf x).p).take (j + 1)).map negO) = (w1.add (((undoL (acOf x).p).take j).map negO)).add [negO o] := by
          rw [List.take_add_one, hxj, List.map_append]
          unfold Wd.add
          rw [List.foldl_append]; rfl
        refine Wp.ixN (x := o) (f := opC) (s := s4) rfl hxj fun _ _ => ?_
        refine go fun b74 => ?_
        refine Wp.ent (Ent.row (b := b74) (f := opC) (sz := 2) (xs := [negO o]) (o := none) rfl (fun _ _ => rfl) (by decide) (by simp) (.inl rfl)) ?_
        refine world_Add_v (l := [negO o]) (by simp) ?_
        refine go ?_
        exact ⟨(), rfl, trivial, .pick (.pick (.pick (.pick (.pick (.cons hadd.symm (.pick (.weak .refl)))))))⟩
      · intro _ _
        rw [List.take_length]
        refine go ?_
        refine Wp.apd (x := a) rfl rfl (by simp; omega) (by simp; omega) fun s' => ?_
        refine go ?_
        refine ⟨(s', ts ++ [(a, ((⟨w.v, ac, st, dosT v (tri0 v.clock (0, 0, 0, 0)) (ls x)⟩ : TrS), acOf x))]), rfl, hp.snoc hxi ⟨rfl, rfl, rfl⟩, Ent.trans ?_ (begE (w := w1.add ((undoL (acOf x).p).map negO)) hws.symm)⟩
        exact Ent.head (fun _ q => q) (.weak .refl)
    · have c : ¬ (0 ≤ x.tally ∧ x.tally < 4) := by simpa using c
      have hw2 : w1 = wdsOf w (xs.take (i + 1)) := by
        rw [hws]; unfold wdOf acOf; simp only; rw [if_neg c]; rfl
      refine Wp.apd (x := a) rfl rfl (by simp; omega) (by simp; omega) fun s' => ?_
      refine go ?_
      exact ⟨(s', ts ++ [(a, ((⟨w.v, ac, st, dosT v (tri0 v.clock (0, 0, 0, 0)) (ls x)⟩ : TrS), acOf x))]), rfl, hp.snoc hxi ⟨rfl, rfl, rfl⟩, begE hw2⟩
  · rintro ⟨sp, ts⟩ hp
    rw [List.take_length] at hp ⊢
    refine go ?_
    exact ⟨_, h sp ts hp, .refl⟩
end
end Go.Proofs.YtbphjihgbenkdaaGreat.HL
namespace Go.Proofs.YtbphjihgbenkdaaGreat.HL
open Go

/-- what there is while CommitSure runs. -/
abbrev sureP (c o a0 a1 b l p : Nat) (W : Wd) (y0 y1 : TrS) (A0 : Ac) (ph : Int) (tk : Tk) (v : Vw) (wi : Wi) (z : Nat) (D : Dk) : List HP :=
  own rC c (cmC 0 a0 ph) :: own rC o (cmC 1 a1 0) :: own rWd b W :: own rC W.t (tkC tk) :: own rTry a0 y0 :: own rActs y0.ac A0 :: own rTry a1 y1 :: own rView y1.w v :: own rC W.w (wiC wi) :: own rC W.a (vaC ⟨p, l, 1⟩) :: own rC l (lgC ⟨p, 1, z⟩) :: own rDisk p D :: []
section
variable {H0 : Heap} {Q : HV → List HP → Prop} [Sea] [SeaOk] [SeaLand] [SeaRedo] {n : Nat} {c o a0 a1 b l p : Nat} {W : Wd} {y0 y1 : TrS} {A0 : Ac} {ph : Int} {tk : Tk} {v : Vw} {wi : Wi} {z : Nat} {D : Dk}
omit [SeaOk] [SeaLand] [SeaRedo] in
theorem sure_o (ok : VOk v) (hr : RdsOk y1.t.rd) (hf : tk.free 1 = false) (h : Q (I 10) (sureP c o a0 a1 b l p W y0 y1 A0 ph tk v wi z D)) :
    Wp H0 (sureP c o a0 a1 b l p W y0 y1 A0 ph tk v wi z D) (f_commit_Commit_Step (lv n) [.ptr (some (o, 0)), .ptr (some (b, 0))]) Q := by
  refine Wp.cl ?_
  refine Wp.ent (P' := own rC o (cmC 1 a1 0) :: own rWd b W :: own rC W.t (tkC tk) :: own rTry a1 y1 :: own rView y1.w v :: own rC c (cmC 0 a0 ph) :: own rTry a0 y0 :: own rActs y0.ac A0 :: own rC W.w (wiC wi) :: own rC W.a (vaC ⟨p, l, 1⟩) :: own rC l (lgC ⟨p, 1, z⟩) :: own rDisk p D :: [])
    (.cons rfl (.cons rfl (.cons rfl (.cons rfl (.cons rfl (.cons rfl .refl)))))) ?_
  refine commit_Step_0 (i := 1) (a := a1) ?_
  refine commit_check_v (w := W) (t := tk) (x := y1) (v := v) ok hr (fun _ => ⟨10, rfl, ?_⟩) (fun c _ => by rw [hf] at c; cases c) (fun c _ => by rw [hf] at c; cases c)
  exact ⟨_, h, .cons rfl (.cons rfl (.cons rfl (.cons rfl (.cons rfl (.cons rfl (.cons rfl .refl))))))⟩
omit [SeaOk] [SeaLand] [SeaRedo] in
theorem sure_c0 (ok : VOk v) (hr : RdsOk y0.t.rd) (hw : y0.w = y1.w) (hf : tk.free 0 = true) (hv : validB v y0.t.rd = true) (h : Q (I 0) (sureP c o a0 a1 b l p W y0 y1 A0 (if y0.t.df.length = 0 then 3 else 1) (tk.lock 0) v wi z D)) :
    Wp H0 (sureP c o a0 a1 b l p W y0 y1 A0 0 tk v wi z D) (f_commit_Commit_Step (lv n) [.ptr (some (c, 0)), .ptr (some (b, 0))]) Q := by
  refine Wp.cl ?_
  refine Wp.ent (P' := own rC c (cmC 0 a0 0) :: own rWd b W :: own rC W.t (tkC tk) :: own rTry a0 y0 :: own rView y0.w v :: own rC o (cmC 1 a1 0) :: own rActs y0.ac A0 :: own rTry a1 y1 :: own rC W.w (wiC wi) :: own rC W.a (vaC ⟨p, l, 1⟩) :: own rC l (lgC ⟨p, 1, z⟩) :: own rDisk p D :: [])
    (by rw [hw]; exact .cons rfl (.cons rfl (.cons rfl (.cons rfl (.cons rfl (.cons rfl (.cons rfl .refl))))))) ?_
  refine commit_Step_0 (i := 0) (a := a0) ?_
  refine commit_check_v (w := W) (t := tk) (x := y0) (v := v) ok hr (fun c => by rw [hf] at c; cases c) (fun _ c => by rw [hv] at c; cases c) (fun _ _ => ⟨0, rfl, ?_⟩)
  refine ⟨_, h, ?_⟩
  rw [hw]
  exact .cons rfl (.cons rfl (.cons rfl (.cons rfl (.cons rfl (.cons rfl (.cons rfl .refl))))))
omit [SeaOk] in
theorem sure_c1 (ok : DOk' D) (hz : z ≤ 2048) (hr : D.n1.length ≤ 10000) (hb : W.b ≤ 1000000) (hf : 0 ≤ W.f ∧ W.f ≤ 9223372036854775807) (okd : DfOk y0.t.df) (hg : ∀ e ∈ y0.t.df, goodF e.2) (hs : tk.sure 0 = true)
    (h1 : 0 < W.f → Q (I 10) (sureP c o a0 a1 b l p { W with f := W.f - 1 } y0 y1 A0 1 tk v wi z D))
    (h2 : W.f = 0 → Q (I 0) (sureP c o a0 a1 b l p W y0 y1 A0 2 tk v wi (z + ((redoL (W.b + 1) y0.t.df).length + 7)) (D.app 1 (closeL (1 :: redoL (W.b + 1) y0.t.df))))) :
    Wp H0 (sureP c o a0 a1 b l p W y0 y1 A0 1 tk v wi z D) (f_commit_Commit_Step (lv (n + 2)) [.ptr (some (c, 0)), .ptr (some (b, 0))]) Q := by
  refine Wp.cl ?_
  refine Wp.ent (P' := own rC c (cmC 0 a0 1) :: own rWd b W :: own rC W.t (tkC tk) :: own rC W.a (vaC ⟨p, l, 1⟩) :: own rC l (lgC ⟨p, 1, z⟩) :: own rDisk p D :: own rTry a0 y0 :: own rC o (cmC 1 a1 0) :: own rActs y0.ac A0 :: own rTry a1 y1 :: own rView y1.w v :: own rC W.w (wiC wi) :: [])
    (.cons rfl (.cons rfl (.cons rfl (.cons rfl (.cons rfl (.cons rfl (.cons rfl .refl))))))) ?_
  refine commit_Step_1 (i := 0) (a := a0) ?_
  refine commit_write_v (w := W) (t := tk) (va := ⟨p, l, 1⟩) (l := ⟨p, 1, z⟩) (d := D) (x := y0) ok (Nat.le_refl 1) hz hr hb hf okd hg (fun c1 _ => ⟨10, rfl, ?_⟩) (fun _ c => by rw [hs] at c; cases c) (fun c1 => ⟨0, rfl, ?_⟩)
  · refine ⟨_, h1 c1, Ent.trans (P' := own rC c (cmC 0 a0 1) :: own rC o (cmC 1 a1 0) :: own rWd b { W with f := W.f - 1 } :: own rC W.t (tkC tk) :: own rTry a0 y0 :: own rActs y0.ac A0 :: own rTry a1 y1 :: own rView y1.w v :: own rC W.w (wiC wi) :: own rC W.a (vaC ⟨p, l, 1⟩) :: own rC l (lgC ⟨p, 1, z⟩) :: own rDisk p D :: []) ?_ .refl⟩
    exact .cons rfl (.cons rfl (.cons rfl (.cons rfl (.cons rfl (.cons rfl (.cons rfl (.cons rfl (.cons rfl (.cons rfl (.cons rfl (.cons rfl .refl)))))))))))
  · exact ⟨_, h2 c1, .cons rfl (.cons rfl (.cons rfl (.cons rfl (.cons rfl (.cons rfl (.cons rfl (.cons rfl (.cons rfl (.cons rfl (.cons rfl (.cons rfl .refl)))))))))))⟩
omit [SeaOk] [SeaLand] [SeaRedo] in
theorem sure_c2 (ok : DOk' D) (h : Q (I 0) (sureP c o a0 a1 b l p W y0 y1 A0 3 tk v wi z D.sync)) :
    Wp H0 (sureP c o a0 a1 b l p W y0 y1 A0 2 tk v wi z D) (f_commit_Commit_Step (lv n) [.ptr (some (c, 0)), .ptr (some (b, 0))]) Q := by
  refine Wp.cl ?_
  refine Wp.ent (P' := own rC c (cmC 0 a0 2) :: own rWd b W :: own rC W.a (vaC ⟨p, l, 1⟩) :: own rC l (lgC ⟨p, 1, z⟩) :: own rDisk p D :: own rC o (cmC 1 a1 0) :: own rC W.t (tkC tk) :: own rTry a0 y0 :: own rActs y0.ac A0 :: own rTry a1 y1 :: own rView y1.w v :: own rC W.w (wiC wi) :: [])
    (.cons rfl (.cons rfl (.cons rfl (.cons rfl (.cons rfl (.cons rfl (.cons rfl .refl))))))) ?_
  refine commit_Step_2 (w := W) (va := ⟨p, l, 1⟩) (l := ⟨p, 1, z⟩) (d := D) ok ?_
  exact ⟨_, h, .cons rfl (.cons rfl (.cons rfl (.cons rfl (.cons rfl (.cons rfl (.cons rfl (.cons rfl (.cons rfl (.cons rfl (.cons rfl (.cons rfl .refl)))))))))))⟩
omit [SeaRedo] in
theorem sure_c3 {m : Nat} (hw : y0.w = y1.w) (hv : VwP v) (ht : TOk v y0.t) (hc : 0 ≤ v.clock ∧ v.clock ≤ 1000000000) (hwi : WiOk wi m) (hm : m ≤ 100000) (ho : A0.o.length + A0.l.length ≤ 1000) (hb : W.b ≤ 1000000)
    (h : ∀ v' wi', Q (I 0) (sureP c o a0 a1 b l p { W with b := W.b + 1 } y0 y1 A0 4 ((tk.unlock 0).drop 0) v' wi' z D)) :
    Wp H0 (sureP c o a0 a1 b l p W y0 y1 A0 3 tk v wi z D) (f_commit_Commit_Step (lv (n + 2)) [.ptr (some (c, 0)), .ptr (some (b, 0))]) Q := by
  refine Wp.cl ?_
  refine Wp.ent (P' := own rC c (cmC 0 a0 3) :: own rWd b W :: own rC W.t (tkC tk) :: own rC W.w (wiC wi) :: own rTry a0 y0 :: own rActs y0.ac A0 :: own rView y0.w v :: own rC o (cmC 1 a1 0) :: own rTry a1 y1 :: own rC W.a (vaC ⟨p, l, 1⟩) :: own rC l (lgC ⟨p, 1, z⟩) :: own rDisk p D :: [])
    (by rw [hw]; exact .cons rfl (.cons rfl (.cons rfl (.cons rfl (.cons rfl (.cons rfl (.cons rfl (.cons rfl .refl)))))))) ?_
  refine commit_Step_3 (i := 0) (a := a0) ?_
  refine commit_land_v (m := m) (w := W) (t := tk) (x := y0) (v := v) (wi := wi) (ac := A0) hv ht hc hwi hm ho hb ⟨0, rfl, ?_⟩
  refine ⟨_, h (if validB v y0.t.rd = true then landT v y0.t else v) (wi.send (A0.o ++ A0.l)), Ent.trans (P' := own rC c (cmC 0 a0 4) :: own rC o (cmC 1 a1 0) :: own rWd b { W with b := W.b + 1 } :: own rC W.t (tkC ((tk.unlock 0).drop 0)) :: own rTry a0 y0 :: own rActs y0.ac A0 :: own rTry a1 y1 :: own rView y1.w (if validB v y0.t.rd = true then landT v y0.t else v) :: own rC W.w (wiC (wi.send (A0.o ++ A0.l))) :: own rC W.a (vaC ⟨p, l, 1⟩) :: own rC l (lgC ⟨p, 1, z⟩) :: own rDisk p D :: []) ?_ .refl⟩
  rw [← hw]
  exact .cons rfl (.cons rfl (.cons rfl (.cons rfl (.cons rfl (.cons rfl (.cons rfl (.cons rfl (.cons rfl (.cons rfl (.cons rfl (.cons rfl .refl)))))))))))
end
end Go.Proofs.YtbphjihgbenkdaaGreat.HL
namespace Go.Proofs.YtbphjihgbenkdaaGreat.HL
open Go

theorem Wp.unrow {α γ : Type} {H0 : Heap} {P F : List HP} {m : M α} {Q : α → List HP → Prop} {f : γ → List HV} {sz : Nat} {s : Sl} {xs : List γ} [fr : FndR P s none γ f sz xs F] (hne : xs ≠ [])
    (h : ∀ b ext, s.p = some (b, 0) → s.len = xs.length → Wp H0 (own rC b ((xs.map f).flatten ++ ext) :: F) m Q) : Wp H0 P m Q := fun H hH => by
  have hH := hH.perm fr.p
  have q := hH.rRf
  rcases hH.rRb with ⟨_, e⟩ | ⟨b, ext, g1, _, _, g4⟩
  · exact absurd e hne
  · exact h b ext g1 q.len H (g4.ent (Ent.head (fun _ ⟨t, _, e⟩ => ⟨t, e⟩) .refl))
theorem Wp.ixb {α : Type} {H0 : Heap} {P : List HP} {Q : α → List HP → Prop} {s : Sl} {i : Int} {j sz b : Nat} {g : Nat → Nat → M α} (hj : i = (j : Int)) (hl : j < s.len) (hb : s.p = some (b, 0)) (h : Wp H0 P (g b (j * sz)) Q) : Wp H0 P (HL.ix s i sz g) Q := fun H hH => wp_ixb hj hl hb (h H hH)
theorem wdsOf_rest (xs : List TyA) : ∀ w : Wd, (wdsOf w xs).t = w.t ∧ (wdsOf w xs).ns = w.ns ∧ (wdsOf w xs).v = w.v ∧ (wdsOf w xs).w = w.w ∧ (wdsOf w xs).a = w.a ∧ (wdsOf w xs).b = w.b ∧ (wdsOf w xs).f = w.f := by
  induction xs with
  | nil => intro w; exact ⟨rfl, rfl, rfl, rfl, rfl, rfl, rfl⟩
  | cons x xs ih =>
    intro w
    have h := ih (wdOf w x)
    have e := Wd.add_rest ((undoL (acOf x).p).map negO) w
    show (wdsOf (wdOf w x) xs).t = w.t ∧ _
    exact ⟨h.1.trans e.1, h.2.1.trans e.2.1, h.2.2.1.trans e.2.2.1, h.2.2.2.1.trans e.2.2.2.1, h.2.2.2.2.1.trans e.2.2.2.2.1, h.2.2.2.2.2.1.trans e.2.2.2.2.2.1, h.2.2.2.2.2.2.trans e.2.2.2.2.2.2⟩
open Classical in
/-- the deeds of one of two tries. -/
noncomputable def lsOf (s0 : Sl) (l0 l1 : List Dee) (x : TyA) : List Dee := if x.s = s0 then l0 else l1
section
variable {H0 : Heap} {P F : List HP} [Sea] [SeaOpen] [SeaOk] [SeaLand] [SeaUndo] [SeaRedo] {n : Nat}
theorem law22_CommitSure_v {x0 x1 : TyA} {l0 l1 : List Dee} {k : Int} [r0 : RoR H0 x0.s Dee deC 4 l0] [r1 : RoR H0 x1.s Dee deC 4 l1] :
    Wp H0 [] (f_law22_CommitSure (lv (n + 3)) [.agg (tyC x0), .agg (tyC x1), I k]) (fun a _ => a = .bool true) := by
  unfold f_law22_CommitSure
  have g0 := r0.len
  have g1 := r1.len
  refine go ?_
  refine alive_v (n := n) ?_
  refine go fun b20 => ?_
  refine Wp.ent (Ent.row (b := b20) (f := tyC) (sz := 7) (xs := [x0, x1]) (o := none) rfl (fun _ _ => rfl) (by decide) (by simp) (.inl rfl)) ?_
  refine great_v (xs := [x0, x1]) ?_
  refine go ⟨fun _ => rfl, fun c => ⟨fun _ => rfl, fun c2 => ⟨fun _ => rfl, fun c3 => ?_⟩⟩⟩
  have hc : l0.length ≤ 20 ∧ l1.length ≤ 20 := by
    unfold greatB TyA.great at c
    simp at c
    omega
  have hro : ∀ x ∈ [x0, x1], RoR H0 x.s Dee deC 4 (lsOf x0.s l0 l1 x) ∧ (lsOf x0.s l0 l1 x).length ≤ 20 := fun x hx => by
    unfold lsOf
    by_cases e : x.s = x0.s
    · rw [if_pos e, e]; exact ⟨r0, hc.1⟩
    · rw [if_neg e]
      simp at hx
      rcases hx with rfl | rfl
      · exact absurd rfl e
      · exact ⟨r1, hc.2⟩
  refine disk_New_v fun p => ?_
  refine go ?_
  refine world_Open_e (n := n) fun b vw wi tk va l => ?_
  refine go fun b38 => ?_
  refine Wp.ent (Ent.row (b := b38) (f := tyC) (sz := 7) (xs := [x0, x1]) (o := none) rfl (fun _ _ => rfl) (by decide) (by simp) (.inl rfl)) ?_
  refine Wp.ent (P' := own rWd b ⟨vw, wi, tk, p, va, 0, 0, 0, 0, [], 0, 0⟩ :: own rView vw vw0 :: own (rR tyC 7) ⟨some (b38, 0), 2, 2, none⟩ [x0, x1] :: own rC wi (wiC ⟨[], [], []⟩) :: own rC tk (tkC ⟨-1, false, -1⟩) :: own rC va (vaC ⟨p, l, 1⟩) :: own rC l (lgC ⟨p, 1, (natL 0).length + 8⟩) :: own rDisk p (dkS (natL 0)) :: [])
    (.cons rfl (.cons rfl (Ent.head (fun _ q => q) (.cons rfl (.cons rfl (.cons rfl (.cons rfl (.cons rfl .tail)))))))) ?_
  refine begun_v (n := n + 1) (w := ⟨vw, wi, tk, p, va, 0, 0, 0, 0, [], 0, 0⟩) (v := vw0) (xs := [x0, x1]) (ls := lsOf x0.s l0 l1) (fun x hx => (hro x hx).1) (fun x hx => Nat.le_trans (hro x hx).2 (by decide)) (by simp) vw0P fun s' ts hts => ?_
  refine go ?_
  have hw := wdsOf_rest [x0, x1] ⟨vw, wi, tk, p, va, 0, 0, 0, 0, [], 0, 0⟩
  generalize wdsOf ⟨vw, wi, tk, p, va, 0, 0, 0, 0, [], 0, 0⟩ [x0, x1] = W at hw
  obtain ⟨W1, W2, W3, W4, W5, t0, t1, t2, t3, ns, W6, W7⟩ := W
  simp only at hw
  obtain ⟨rfl, rfl, rfl, rfl, rfl, rfl, rfl⟩ := hw
  obtain ⟨hl, hj⟩ := hts
  obtain ⟨⟨a0, y0, ac0⟩, ⟨a1, y1, ac1⟩, rfl⟩ : ∃ e0 e1, ts = [e0, e1] := by
    match ts, hl with
    | [e0, e1], _ => exact ⟨e0, e1, rfl⟩
  obtain ⟨u0, u1, u2⟩ := hj 0 x0 (a0, y0, ac0) rfl rfl
  obtain ⟨v0, v1, v2⟩ := hj 1 x1 (a1, y1, ac1) rfl rfl
  simp only at u0 u1 u2 v0 v1 v2
  subst u2 v2
  refine Wp.ent (P' := own (rR ptC 1) s' [a0, a1] :: own rWd b ⟨W1, W2, W3, W4, W5, t0, t1, t2, t3, [], 0, 0⟩ :: own rView W1 vw0 :: own rTA a0 (y0, acOf x0) :: own rTA a1 (y1, acOf x1) :: own rC W2 (wiC ⟨[], [], []⟩) :: own rC W3 (tkC ⟨-1, false, -1⟩) :: own rC W5 (vaC ⟨p, l, 1⟩) :: own rC l (lgC ⟨p, 1, (natL 0).length + 8⟩) :: own rDisk p (dkS (natL 0)) :: [])
    (Ent.head (fun _ q => q) (Ent.head (fun _ q => q) (Ent.head (fun _ q => q) (.weak .refl)))) ?_
  refine Wp.unrow (s := s') (xs := [a0, a1]) (f := ptC) (sz := 1) (by simp) fun q ext hq hql => ?_
  refine world_Token_e (w := ⟨W1, W2, W3, W4, W5, t0, t1, t2, t3, [], 0, 0⟩) (tt := W3) rfl ?_
  refine go ?_
  refine token_Take_v (t := ⟨-1, false, -1⟩) ?_
  refine go ?_
  refine world_Fail_v (w := ⟨W1, W2, W3, W4, W5, t0, t1, t2, t3, [], 0, 0⟩) ?_
  refine go fun h0 w0 h1 w1 => ?_
  refine Wp.ixb (j := 0) rfl (by rw [hql]; simp) hq ?_
  refine go fun h2 w2 => ?_
  refine Wp.ldC (b := q) (v := .ptr (some (a0, 0))) rfl ?_
  refine go fun h3 w3 => ?_
  refine commit_New_v (a := a0) (by decide) fun c => ?_
  refine go fun h4 w4 h5 w5 => ?_
  refine Wp.ixb (j := 1) rfl (by rw [hql]; simp) hq ?_
  refine go fun h6 w6 => ?_
  refine Wp.ldC (b := q) (v := .ptr (some (a1, 0))) rfl ?_
  refine go fun h7 w7 => ⟨⟨⟨Was.eq w7 w6, Was.eq w6 w5, Was.eq w5 w4, Was.eq w4 w3, Was.eq w3 w2, Was.eq w2 w1, Was.eq w1 w0, trivial⟩, trivial⟩, ?_⟩
  refine commit_New_v (a := a1) (by decide) fun o => ?_
  refine go ?_
  refine Wp.ixb (j := 0) rfl (by rw [hql]; simp) hq ?_
  refine Wp.ldC (b := q) (v := .ptr (some (a0, 0))) rfl ?_
  refine go ?_
  obtain ⟨y0v, y0a, y0s, y0t⟩ := y0
  obtain ⟨y1v, y1a, y1s, y1t⟩ := y1
  simp only at u0 u1 v0 v1
  subst u0 v0
  refine Wp.open rTA a0 fun _ _ => ?_
  refine Wp.open rTA a1 fun _ _ => ?_
  refine Wp.ent (P' := own rC c (cmC 0 a0 0) :: own rC o (cmC 1 a1 0) :: own rWd b ⟨y1v, W2, W3, W4, W5, t0, t1, t2, t3, [], 0, k⟩ :: own rC W3 (tkC ⟨0, false, -1⟩) :: own rTry a0 ⟨y1v, y0a, y0s, y0t⟩ :: own rActs y0a (acOf x0) :: own rTry a1 ⟨y1v, y1a, y1s, y1t⟩ :: own rView y1v vw0 :: own rC W2 (wiC ⟨[], [], []⟩) :: own rC W5 (vaC ⟨p, l, 1⟩) :: own rC l (lgC ⟨p, 1, (natL 0).length + 8⟩) :: own rDisk p (dkS (natL 0)) :: [])
    (.cons rfl (.cons rfl (.cons (by simp only; rw [if_neg (by omega)]) (.cons rfl (.cons rfl (.cons rfl (.cons rfl (.cons rfl (.cons rfl (.cons rfl (.cons rfl (.cons rfl .tail)))))))))))) ?_
  refine attempt_Writes_v (x := ⟨y1v, y0a, y0s, y0t⟩) ?_
  have hT0 : TOk vw0 y0t := by rw [u1]; exact dosT_ok vw0P (tri0_ok vw0P)
  have hR0 : RdV vw0 y0t := by rw [u1]; exact dosT_rd tri0_rd
  have e00 : natL 0 = [UInt8.ofNat 0] := natL_lo (by decide)
  have hT1 : TOk vw0 y1t := by rw [v1]; exact dosT_ok vw0P (tri0_ok vw0P)
  refine Wp.ent (P' := sureP c o a0 a1 b l p ⟨y1v, W2, W3, W4, W5, t0, t1, t2, t3, [], 0, k⟩ ⟨y1v, y0a, y0s, y0t⟩ ⟨y1v, y1a, y1s, y1t⟩ (acOf x0) 0 ⟨0, false, -1⟩ vw0 ⟨[], [], []⟩ ((natL 0).length + 8) (dkS (natL 0))) .refl ?_
  refine go ⟨fun c4 => ?_, fun c4 => ?_⟩
  · have hf0 : y0t.df.length = 0 := by simpa using c4
    refine Wp.blk (Wp.loop (fun kk vs P' => (kk = 3 ∧ vs = [I 0, I 0] ∧ P' = sureP c o a0 a1 b l p ⟨y1v, W2, W3, W4, W5, t0, t1, t2, t3, [], 0, k⟩ ⟨y1v, y0a, y0s, y0t⟩ ⟨y1v, y1a, y1s, y1t⟩ (acOf x0) 0 ⟨0, false, -1⟩ vw0 ⟨[], [], []⟩ ((natL 0).length + 8) (dkS (natL 0)))
      ∨ (kk = 2 ∧ vs = [I 0, I 1] ∧ P' = sureP c o a0 a1 b l p ⟨y1v, W2, W3, W4, W5, t0, t1, t2, t3, [], 0, k⟩ ⟨y1v, y0a, y0s, y0t⟩ ⟨y1v, y1a, y1s, y1t⟩ (acOf x0) 3 ⟨0, false, 0⟩ vw0 ⟨[], [], []⟩ ((natL 0).length + 8) (dkS (natL 0)))
      ∨ (kk = 1 ∧ vs = [I 0, I 2] ∧ ∃ v wi, P' = sureP c o a0 a1 b l p ⟨y1v, W2, W3, W4, W5, t0, t1, t2, t3, [], 1, k⟩ ⟨y1v, y0a, y0s, y0t⟩ ⟨y1v, y1a, y1s, y1t⟩ (acOf x0) 4 ⟨-1, false, -1⟩ v wi ((natL 0).length + 8) (dkS (natL 0)))) 3 (.inl ⟨rfl, rfl, rfl⟩) ?_)
    rintro kk vs P' (⟨rfl, rfl, rfl⟩ | ⟨rfl, rfl, rfl⟩ | ⟨rfl, rfl, v, wi, rfl⟩)
    · refine go ⟨fun _ => ?_, fun c => absurd c (by decide)⟩
      refine commit_Phase_v (i := 0) (a := a0) ?_
      refine go ⟨fun _ => ?_, fun c => absurd c (by decide)⟩
      refine sure_o vw0P.ok hT1.rk rfl ?_
      refine go ?_
      refine commit_Phase_v (c := o) (i := 1) (a := a1) ?_
      refine go ?_
      refine world_Token_e (w := ⟨y1v, W2, W3, W4, W5, t0, t1, t2, t3, [], 0, k⟩) (tt := W3) rfl ?_
      refine go ?_
      refine token_Sure_v (t := ⟨0, false, -1⟩) ?_
      refine go ⟨fun c => Bool.noConfusion (show true = false from c), fun _ => ?_⟩
      refine sure_c0 vw0P.ok hT0.rk rfl rfl hR0.valid ?_
      refine go ?_
      exact ⟨fun c => absurd c (by decide), fun _ => ⟨2, by decide, .inr (.inl ⟨rfl, rfl, by rw [if_pos hf0]; rfl⟩)⟩⟩
    · refine go ⟨fun _ => ?_, fun c => absurd c (by decide)⟩
      refine commit_Phase_v (i := 0) (a := a0) ?_
      refine go ⟨fun _ => ?_, fun c => absurd c (by decide)⟩
      refine sure_o vw0P.ok hT1.rk rfl ?_
      refine go ?_
      refine commit_Phase_v (c := o) (i := 1) (a := a1) ?_
      refine go ?_
      refine world_Token_e (w := ⟨y1v, W2, W3, W4, W5, t0, t1, t2, t3, [], 0, k⟩) (tt := W3) rfl ?_
      refine go ?_
      refine token_Sure_v (t := ⟨0, false, 0⟩) ?_
      refine go ⟨fun c => Bool.noConfusion (show true = false from c), fun _ => ?_⟩
      refine sure_c3 (n := n + 1) (m := 0) rfl vw0P hT0 ⟨by decide, by decide⟩ ⟨by decide, by decide, by decide⟩ (by decide) (by unfold acOf; simp only; split <;> simp) (Nat.zero_le _) fun v' wi' => ?_
      refine go ?_
      exact ⟨fun c => absurd c (by decide), fun _ => ⟨1, by decide, .inr (.inr ⟨rfl, rfl, v', wi', rfl⟩)⟩⟩
    · refine go ⟨fun _ => ?_, fun c => absurd c (by decide)⟩
      refine commit_Phase_v (i := 0) (a := a0) ?_
      refine go ?_
      refine commit_Phase_v (i := 0) (a := a0) ?_
      refine go ?_
      refine world_Blocks_v (w := ⟨y1v, W2, W3, W4, W5, t0, t1, t2, t3, [], 1, k⟩) ?_
      refine go ?_
      refine world_Token_e (w := ⟨y1v, W2, W3, W4, W5, t0, t1, t2, t3, [], 1, k⟩) (tt := W3) rfl ?_
      refine go ?_
      refine token_Holder_v (t := ⟨-1, false, -1⟩) ?_
      refine go ⟨fun _ => ?_, fun c => absurd (by decide) c⟩
      refine world_Token_e (w := ⟨y1v, W2, W3, W4, W5, t0, t1, t2, t3, [], 1, k⟩) (tt := W3) rfl ?_
      refine go ?_
      refine token_Commits_v (t := ⟨-1, false, -1⟩) ?_
      refine go ?_
      rfl
  · have hf0 : y0t.df.length ≠ 0 := by simpa using c4
    have en : (natL 0).length = 1 := by rw [e00]; rfl
    have hrl := redoL_len (n := 0 + 1) hT0.df hT0.fl (by decide)
    have okD : DOk' (dkS (natL 0)) := dkS_ok (by omega)
    refine Wp.blk (Wp.loop (fun kk vs P' => (kk = 100 ∧ vs = [I 0, I 0] ∧ P' = sureP c o a0 a1 b l p ⟨y1v, W2, W3, W4, W5, t0, t1, t2, t3, [], 0, k⟩ ⟨y1v, y0a, y0s, y0t⟩ ⟨y1v, y1a, y1s, y1t⟩ (acOf x0) 0 ⟨0, false, -1⟩ vw0 ⟨[], [], []⟩ ((natL 0).length + 8) (dkS (natL 0)))
      ∨ (∃ f : Nat, (f : Int) ≤ k ∧ kk = f + 4 ∧ vs = [I (k - f), I (1 + (k - f))] ∧ P' = sureP c o a0 a1 b l p ⟨y1v, W2, W3, W4, W5, t0, t1, t2, t3, [], 0, f⟩ ⟨y1v, y0a, y0s, y0t⟩ ⟨y1v, y1a, y1s, y1t⟩ (acOf x0) 1 ⟨0, false, 0⟩ vw0 ⟨[], [], []⟩ ((natL 0).length + 8) (dkS (natL 0)))
      ∨ (kk = 3 ∧ vs = [I k, I (k + 2)] ∧ P' = sureP c o a0 a1 b l p ⟨y1v, W2, W3, W4, W5, t0, t1, t2, t3, [], 0, 0⟩ ⟨y1v, y0a, y0s, y0t⟩ ⟨y1v, y1a, y1s, y1t⟩ (acOf x0) 2 ⟨0, false, 0⟩ vw0 ⟨[], [], []⟩ ((natL 0).length + 8 + ((redoL (0 + 1) y0t.df).length + 7)) ((dkS (natL 0)).app 1 (closeL (1 :: redoL (0 + 1) y0t.df))))
      ∨ (kk = 2 ∧ vs = [I k, I (k + 3)] ∧ P' = sureP c o a0 a1 b l p ⟨y1v, W2, W3, W4, W5, t0, t1, t2, t3, [], 0, 0⟩ ⟨y1v, y0a, y0s, y0t⟩ ⟨y1v, y1a, y1s, y1t⟩ (acOf x0) 3 ⟨0, false, 0⟩ vw0 ⟨[], [], []⟩ ((natL 0).length + 8 + ((redoL (0 + 1) y0t.df).length + 7)) (((dkS (natL 0)).app 1 (closeL (1 :: redoL (0 + 1) y0t.df))).sync))
      ∨ (kk = 1 ∧ vs = [I k, I (k + 4)] ∧ ∃ v wi, P' = sureP c o a0 a1 b l p ⟨y1v, W2, W3, W4, W5, t0, t1, t2, t3, [], 1, 0⟩ ⟨y1v, y0a, y0s, y0t⟩ ⟨y1v, y1a, y1s, y1t⟩ (acOf x0) 4 ⟨-1, false, -1⟩ v wi ((natL 0).length + 8 + ((redoL (0 + 1) y0t.df).length + 7)) (((dkS (natL 0)).app 1 (closeL (1 :: redoL (0 + 1) y0t.df))).sync))) 100 (.inl ⟨rfl, rfl, rfl⟩) ?_)
    have hk : 0 ≤ k ∧ k ≤ 20 := by omega
    have okA : DOk' ((dkS (natL 0)).app 1 (closeL (1 :: redoL (0 + 1) y0t.df))) := okD.app (Nat.le_refl 1) (by
      show (stlL (natL 0)).length + _ ≤ _
      unfold stlL; rw [closeL_len, stlS_len, closeL_len, List.length_cons]; omega) (by show 0 < 1000000; decide)
    rintro kk vs P' (⟨rfl, rfl, rfl⟩ | ⟨f, hfk, rfl, rfl, rfl⟩ | ⟨rfl, rfl, rfl⟩ | ⟨rfl, rfl, rfl⟩ | ⟨rfl, rfl, v, wi, rfl⟩)
    · refine go ⟨fun _ => ?_, fun c => absurd c (by omega)⟩
      refine commit_Phase_v (i := 0) (a := a0) ?_
      refine go ⟨fun _ => ?_, fun c => absurd c (by decide)⟩
      refine sure_o vw0P.ok hT1.rk rfl ?_
      refine go ?_
      refine commit_Phase_v (c := o) (i := 1) (a := a1) ?_
      refine go ?_
      refine world_Token_e (w := ⟨y1v, W2, W3, W4, W5, t0, t1, t2, t3, [], 0, k⟩) (tt := W3) rfl ?_
      refine go ?_
      refine token_Sure_v (t := ⟨0, false, -1⟩) ?_
      refine go ⟨fun c => Bool.noConfusion (show true = false from c), fun _ => ?_⟩
      refine sure_c0 vw0P.ok hT0.rk rfl rfl hR0.valid ?_
      refine go ?_
      have hkn : (k.toNat : Int) = k := Int.toNat_of_nonneg hk.1
      exact ⟨fun c => absurd c (by omega), fun _ => ⟨k.toNat + 4, by omega, .inr (.inl ⟨k.toNat, by omega, rfl, by rw [hkn, Int.sub_self]; rfl, by rw [if_neg hf0, hkn]; rfl⟩)⟩⟩
    · refine go ⟨fun _ => ?_, fun c => absurd c (by omega)⟩
      refine commit_Phase_v (i := 0) (a := a0) ?_
      refine go ⟨fun _ => ?_, fun c => absurd c (by decide)⟩
      refine sure_o vw0P.ok hT1.rk rfl ?_
      refine go ?_
      refine commit_Phase_v (c := o) (i := 1) (a := a1) ?_
      refine go ?_
      refine world_Token_e (w := ⟨y1v, W2, W3, W4, W5, t0, t1, t2, t3, [], 0, f⟩) (tt := W3) rfl ?_
      refine go ?_
      refine token_Sure_v (t := ⟨0, false, 0⟩) ?_
      refine go ⟨fun c => Bool.noConfusion (show true = false from c), fun _ => ?_⟩
      refine sure_c1 (n := n + 1) okD (by omega) (by show (stlL (natL 0)).length ≤ _; unfold stlL; rw [closeL_len, stlS_len]; omega) (Nat.zero_le _) ⟨by simp only; omega, by simp only; omega⟩ hT0.df hT0.fl rfl (fun cf => ?_) (fun cf => ?_)
      · refine go ?_
        have cf : 0 < (f : Int) := cf
        obtain ⟨g, rfl⟩ : ∃ g, f = g + 1 := ⟨f - 1, by omega⟩
        have ew : wr (k - ((g + 1 : Nat) : Int) + 1) = k - (g : Int) := by rw [wr_small (by omega) (by omega)]; omega
        have ew2 : wr (1 + (k - ((g + 1 : Nat) : Int)) + 1) = 1 + (k - (g : Int)) := by rw [wr_small (by omega) (by omega)]; omega
        have ef : ((g + 1 : Nat) : Int) - 1 = (g : Int) := by omega
        rw [ew, ew2]
        refine ⟨fun c => absurd c (by decide), fun _ => ⟨fun c => absurd c (by omega), fun _ => ?_⟩⟩
        exact ⟨g + 4, by omega, Or.inr (Or.inl ⟨g, by omega, rfl, rfl, by simp only [ef]⟩)⟩
      · have cf : (f : Int) = 0 := cf
        have cf0 : f = 0 := by omega
        subst cf0
        refine go ?_
        have e1 : k - ((0 : Nat) : Int) = k := by omega
        have e2 : wr (1 + k + 1) = k + 2 := by rw [wr_small (by omega) (by omega)]; omega
        rw [e1, e2]
        exact ⟨fun c => absurd c (by omega), fun _ => ⟨3, by decide, .inr (.inr (.inl ⟨rfl, rfl, rfl⟩))⟩⟩
    · refine go ⟨fun _ => ?_, fun c => absurd c (by omega)⟩
      refine commit_Phase_v (i := 0) (a := a0) ?_
      refine go ⟨fun _ => ?_, fun c => absurd c (by decide)⟩
      refine sure_o vw0P.ok hT1.rk rfl ?_
      refine go ?_
      refine commit_Phase_v (c := o) (i := 1) (a := a1) ?_
      refine go ?_
      refine world_Token_e (w := ⟨y1v, W2, W3, W4, W5, t0, t1, t2, t3, [], 0, 0⟩) (tt := W3) rfl ?_
      refine go ?_
      refine token_Sure_v (t := ⟨0, false, 0⟩) ?_
      refine go ⟨fun c => Bool.noConfusion (show true = false from c), fun _ => ?_⟩
      refine sure_c2 okA ?_
      refine go ?_
      exact ⟨fun c => absurd c (by omega), fun _ => ⟨2, by decide, .inr (.inr (.inr (.inl ⟨rfl, by rw [wr_small (by omega) (by omega), Int.add_assoc]; rfl, rfl⟩)))⟩⟩
    · refine go ⟨fun _ => ?_, fun c => absurd c (by omega)⟩
      refine commit_Phase_v (i := 0) (a := a0) ?_
      refine go ⟨fun _ => ?_, fun c => absurd c (by decide)⟩
      refine sure_o vw0P.ok hT1.rk rfl ?_
      refine go ?_
      refine commit_Phase_v (c := o) (i := 1) (a := a1) ?_
      refine go ?_
      refine world_Token_e (w := ⟨y1v, W2, W3, W4, W5, t0, t1, t2, t3, [], 0, 0⟩) (tt := W3) rfl ?_
      refine go ?_
      refine token_Sure_v (t := ⟨0, false, 0⟩) ?_
      refine go ⟨fun c => Bool.noConfusion (show true = false from c), fun _ => ?_⟩
      refine sure_c3 (n := n + 1) (m := 0) rfl vw0P hT0 ⟨by decide, by decide⟩ ⟨by decide, by decide, by decide⟩ (by decide) (by unfold acOf; simp only; split <;> simp) (Nat.zero_le _) fun v' wi' => ?_
      refine go ?_
      exact ⟨fun c => absurd c (by omega), fun _ => ⟨1, by decide, .inr (.inr (.inr (.inr ⟨rfl, by rw [wr_small (by omega) (by omega), Int.add_assoc]; rfl, v', wi', rfl⟩)))⟩⟩
    · refine go ⟨fun _ => ?_, fun c => absurd c (by omega)⟩
      refine commit_Phase_v (i := 0) (a := a0) ?_
      refine go ?_
      refine commit_Phase_v (i := 0) (a := a0) ?_
      refine go ?_
      refine world_Blocks_v (w := ⟨y1v, W2, W3, W4, W5, t0, t1, t2, t3, [], 1, 0⟩) ?_
      refine go ?_
      refine world_Token_e (w := ⟨y1v, W2, W3, W4, W5, t0, t1, t2, t3, [], 1, 0⟩) (tt := W3) rfl ?_
      refine go ?_
      refine token_Holder_v (t := ⟨-1, false, -1⟩) ?_
      refine go ⟨fun _ => ?_, fun c => absurd (by decide) c⟩
      refine world_Token_e (w := ⟨y1v, W2, W3, W4, W5, t0, t1, t2, t3, [], 1, 0⟩) (tt := W3) rfl ?_
      refine go ?_
      refine token_Commits_v (t := ⟨-1, false, -1⟩) ?_
      refine go ?_
      rfl
end
end Go.Proofs.YtbphjihgbenkdaaGreat.HL
