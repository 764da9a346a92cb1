/- Lemmas for the row. Conditions: none. -/
import Derived.Test.YtbphjihgbenkdaaGreatHQR
namespace Go.Proofs.YtbphjihgbenkdaaGreat.HQ
set_option linter.unusedVariables false
set_option linter.unusedSectionVars false
set_option linter.unusedSimpArgs false
open Go
set_option linter.unusedSectionVars false
variable [Sites]
section
variable {E : Env} {P : Program} {I0 : Inj} {H0 : Heap} {w0 : World} {cx : Cx} {β : Nat → Option Nat} {I : Inj} {H : Heap} {w : World} {S : St} {a : Act}
variable {n : Nat} {r : Leaf × Heap}
theorem load_run {t : TypeId} {s : SV} {v : Value} {K : SV → St → M Leaf} (hI : Inv E P I0 H0 w0 cx β I H w S a) (hs : SVR I β S.B s v) (h : loadD P t s S K H n = some r) :
  ∃ hv u A, app (K (.v hv) S) H n = some r ∧ VR I hv u ∧ v = .pointer (some A) ∧ (loadVar t A).run P w = .ok u w := by
 replace h : app (loadD P t s S K) H n = some r := h
 unfold loadD at h
 split at h
 ·rename_i d off
  split at h
  ·rename_i cs eb
   obtain ⟨_, b, hb, hv⟩ := hs
   obtain ⟨b2, c, el, h1, h2, h3, h4⟩ := hI.br.box d cs eb
   rw [hb] at h1; cases h1
   rcases partA_some h with ⟨e, h5, h6⟩ | ⟨e, v', h5, h6⟩
   ·obtain ⟨l, g1, g2, g3, g4⟩ := cells_slice (d := 0) (box_cells0 h3 h4) h5
    have hl := run_loadVar_ag (w := w) (A := ⟨b, off, none⟩) e g1 (fun j v hj => by rw [add_none, cell_of h2]; simpa using g4 j v hj)
    exact ⟨_, _, _, h6, VR.agg g2 g3, hv, hl⟩
   ·obtain ⟨u, g1, g2⟩ := box_cells h3 h4 off v' h5
    have hl := run_loadVar_sc (w := w) (A := ⟨b, off, none⟩) e (by rw [cell_of h2]; exact g1)
    exact ⟨_, _, _, h6, g2.1, hv, hl⟩
  ·exact (stk_some h).elim
 ·rename_i p
  obtain ⟨hb, ho', rfl, h⟩ := mP_some h
  have hv : VR I (.ptr (some (hb, ho'))) v := hs
  cases hv with
  | ptr hj =>
   rename_i b' d
   split at h
   ·rename_i e
    obtain ⟨cs, ro, g1, g2, g3⟩ := ldN_some h
    obtain ⟨c, el, fr, q1, q2, _⟩ := hI.rel.obj hb b' d cs ro hj g1
    obtain ⟨l, p1, p2, p3, p4⟩ := cells_slice q2 g2
    have hl := run_loadVar_ag (w := w) (A := ⟨b', d + ho', none⟩) e p1 (fun j v hj => by rw [add_none, cell_of q1]; exact p4 j v hj)
    exact ⟨_, _, _, Sh1.d_some g3, VR.agg p2 p3, rfl, hl⟩
   ·rename_i e
    obtain ⟨cs, ro, v', g1, g2, g3⟩ := ldC_some h
    obtain ⟨c, el, fr, q1, q2, _⟩ := hI.rel.obj hb b' d cs ro hj g1
    obtain ⟨u, p1, p2⟩ := q2 _ _ g2
    have hl := run_loadVar_sc (w := w) (A := ⟨b', d + ho', none⟩) e (by rw [cell_of q1]; exact p1)
    exact ⟨_, _, _, Sh1.d_some g3, p2.1, rfl, hl⟩
   ·exact (stk_some h).elim
 ·exact (stk_some h).elim
def resOne (tmps : Array Value) : ResultVar → Sem Value
 | .tmp t => pure (tmps.getD t undef)
 | .cell a t => do loadVar t (← asAddr (tmps.getD a undef))
theorem resD_run (hI : Inv E P I0 H0 w0 cx β I H w S a) : ∀ {l : List ResultVar} {K : List HV → M Leaf}, resD P l S K H n = some r →
  ∃ vs lv, app (K vs) H n = some r ∧ VRs I vs lv ∧ (l.mapM (resOne a.tmps)).run P w = .ok lv w
 | [], K, h => ⟨[], [], h, .nil, by simp⟩
 | .tmp t :: l, K, h => by
  replace h : app (resD P (.tmp t :: l) S K) H n = some r := h
  unfold resD at h
  split at h
  ·rename_i hv ht
   obtain ⟨vs, lv, h1, h2, h3⟩ := resD_run hI h
   have hv' := hI.fr t
   rw [ht] at hv'
   exact ⟨_, _, h1, .cons hv' h2, by simp only [List.mapM_cons, resOne, Sem.run_bind, Sem.run_pure, Result.andThen_ok, h3]⟩
  ·exact (stk_some h).elim
 | .cell x t :: l, K, h => by
  replace h : app (resD P (.cell x t :: l) S K) H n = some r := h
  unfold resD at h
  obtain ⟨hv, u, A, h1, h2, h3, h4⟩ := load_run hI (hI.fr x) h
  obtain ⟨vs, lv, g1, g2, g3⟩ := resD_run hI h1
  exact ⟨_, _, g1, .cons h2 g2, by simp only [List.mapM_cons, resOne, Sem.run_bind, h3, asAddr, Sem.run_pure, Result.andThen_ok, h4, g3]⟩
theorem results_run {fn : Func} {tmps : Array Value} {lv : List Value} (h : (fn.results.toList.mapM (resOne tmps)).run P w = .ok lv w) :
  (results fn tmps).run P w = .ok (match lv with | [v] => v | l => .tuple l.toArray) w := by
 have e : results fn tmps = (do let vs ← fn.results.mapM (resOne tmps); pure (if h : vs.size = 1 then vs[0] else .tuple vs)) := by
  unfold results; congr 1
 rw [e, Array.mapM_eq_mapM_toList]
 simp only [Sem.run_bind, Sem.run_map, h, Result.andThen_ok, Sem.run_pure]
 rcases lv with _ | ⟨v, _ | ⟨u, l⟩⟩ <;> simp
theorem params_some {l : List Sh1} : ∀ {i : Nat} {vs : List HV} {S : St} {K : St → M Leaf}, params l i vs S K H n = some r →
  ∃ S', app (K S') H n = some r ∧ S'.B = S.B ∧ ∀ t, S'.F.get t = if i ≤ t ∧ t < i + vs.length then .v (vs.getD (t - i) default) else S.F.get t := by
 induction l with
 | nil =>
  intro i vs S K h
  simp only [params] at h
  obtain ⟨rfl, h⟩ := nl_some h
  exact ⟨S, h, rfl, fun t => by rw [if_neg (by simp only [List.length_nil]; omega)]⟩
 | cons sh l ih =>
  intro i vs S K h
  simp only [params] at h
  obtain ⟨v, vs, rfl, h⟩ := uc_some h
  obtain ⟨S', h1, h2, h3⟩ := ih (Sh1.d_some h)
  refine ⟨S', h1, h2, fun t => ?_⟩
  rw [h3]
  by_cases e : i + 1 ≤ t ∧ t < i + 1 + vs.length
  ·rw [if_pos e, if_pos (by simp only [List.length_cons]; omega)]
   rw [show t - i = (t - (i + 1)) + 1 by omega]; rfl
  ·rw [if_neg e, Fr.get_set]
   by_cases e2 : t = i
   ·subst e2; rw [if_pos rfl, if_pos (by simp only [List.length_cons]; omega), Nat.sub_self]; rfl
   ·rw [if_neg e2, if_neg (by simp only [List.length_cons]; omega)]
theorem Inv.shut {D : Nat} {o : Obj} {a : Act} {ds : List Deferred} (hI : Inv E P I0 H0 w0 cx β I H w S a) (hD : w.heap[D]? = some (.deferred (some []))) (h0 : w0.heap.size ≤ D) (hj : ∀ x e, I.j x ≠ some (D, e)) (hd : Marks I w0 (w.putObj D o) ds) :
  Inv E P I0 H0 w0 cx β I H (w.putObj D o) S { a with defers := ds } where
 step := {
  ext := ⟨hI.step.ext.1, hI.step.ext.2⟩
  le := hI.step.le
  n := hI.step.n
  size := by rw [putObj_size]; exact hI.step.size
  keep := fun b hb hn hl => by
   rw [putObj_ne (by omega)]; exact hI.step.keep b hb hn hl
  img1 := hI.step.img1
  img2 := hI.step.img2
  img3 := hI.step.img3
  lp := fun x r h => let ⟨r2, h3⟩ := hI.step.lp x r h; ⟨r2, by rw [putObj_ne (fun hh => by rw [hh, hD] at h3; cases h3)]; exact h3⟩ }
 rel := hI.rel.other hj (fun c el fr hc => by rw [hD] at hc; cases hc)
 fr := hI.fr
 br := ⟨fun d cs hd => by
  obtain ⟨b, c, el, q1, q2, q3⟩ := hI.br.box d cs hd
  have : b ≠ D := fun hh => by subst hh; rw [hD] at q2; cases q2
  exact ⟨b, c, el, q1, by rw [putObj_ne this]; exact q2, q3⟩, hI.br.inj, hI.br.img⟩
 fresh := hI.fresh
 gl := hI.gl
 sz := hI.sz
 anc := hI.anc
 defers := hd
theorem leaves_ok {fn : Func} {R : Ending → World → Prop} (hfin : ∀ w a, Inv E P I0 H0 w0 cx β I H w S a → ∃ v, (results fn a.tmps).run P w = .ok v w ∧ R (.returned v) w) : ∀ (Ds : List Nat) {w : World} {a : Act}, Inv E P I0 H0 w0 cx β I H w S a →
  a.defers = Ds.map (fun D => { target := .collected D, args := #[] }) → Ds.Nodup → (∀ D ∈ Ds, w.heap[D]? = some (.deferred (some [])) ∧ w0.heap.size ≤ D ∧ ∀ x e, I.j x ≠ some (D, e)) →
  LeavesInM (FW none) 0 P fn a.tmps R a.defers .returning w
 | [], w, a, hI, hd, _, _ => by
  rw [hd]; exact hfin w a hI
 | D :: Ds, w, a, hI, hd, hnd, hc => by
  obtain ⟨c1, c2, c3⟩ := hc D List.mem_cons_self
  obtain ⟨n1, n2⟩ := List.nodup_cons.1 hnd
  have hc' : ∀ D' ∈ Ds, (w.putObj D (.deferred none)).heap[D']? = some (.deferred (some [])) ∧ w0.heap.size ≤ D' ∧ ∀ x e, I.j x ≠ some (D', e) := fun D' hD' => by
   obtain ⟨d1, d2, d3⟩ := hc D' (List.mem_cons_of_mem _ hD')
   exact ⟨by rw [putObj_ne (l := D) (x := D') (fun hh => by subst hh; exact n1 hD')]; exact d1, d2, d3⟩
  have hI' := hI.shut (o := .deferred none) c1 c2 c3 (ds := Ds.map (fun D => { target := .collected D, args := #[] })) ⟨Ds, rfl, n2, hc'⟩
  have := leaves_ok hfin Ds hI' rfl n2 hc'
  rw [hd]
  exact ⟨by simp, .inl ⟨D, _, rfl, run_takeDeferred c1, this⟩⟩
theorem fn_ok {esc : List Nat} {an : Ann} {f : Nat} {fn : Func} {fv : List Sh1} (hE : EnvOk P E) (hmx : P.follows .mixedOrders = true) (hf : P.funcs[f]? = some fn)
  (hchk : (match fn.body with | some c => (assigned c).all (fun t => Nat.blt t fn.ntmps) | none => false) = true) (hname : (fn.name == "runtime.NumGoroutine") = false)
  (hst : ∀ c, fn.body = some c → ∀ s ∈ sites c an, ∀ m, fn.ntmps ≤ m → Sites.ok s.k 0 m s.ps s.a s.b) : FnOk P E.gl f (fnD E P esc an fn fv) := by
 cases hb : fn.body with
 | none => rw [hb] at hchk; cases hchk
 | some c =>
  rw [hb] at hchk
  refine ⟨⟨fn, c, hf, hb, hname⟩, ?_⟩
  intro args H n r H' h I w args' hR hgl hargs
  replace h : app (fnD E P esc an fn fv args) H n = some (r, H') := h
  unfold fnD at h
  rw [hb] at h
  simp only at h
  replace h : fin _ H n = some (r, H') := h
  unfold fin at h
  generalize hm : params (sh1s P fn.params.toList ++ fv) 0 args ⟨.nil, .nil⟩ (fun S => den E P (fun d => mem d esc) fn.results.toList c an 0 [] S fun S' => resD P fn.results.toList S' fun vs => ret (.ret vs)) H n = m at h
  cases m with
  | none => cases h
  | some lh =>
   obtain ⟨S, s1, s2, s3⟩ := params_some hm
   refine callsIn_FW.1 (callsIn_of_wp_marks (F := FW none) (n := 0) hf hb trivial ?_)
   have hsz : (args'.toArray ++ Array.replicate (fn.ntmps - args'.toArray.size) undef).size ≥ fn.ntmps := by simp; omega
   have hI : Inv E P I H w { nt := (args'.toArray ++ Array.replicate (fn.ntmps - args'.toArray.size) undef).size, bars := [] } (fun _ => none) I H w S { tmps := args'.toArray ++ Array.replicate (fn.ntmps - args'.toArray.size) undef, defers := [] } := by
    refine ⟨.refl I H w, hR, fun t => ?_, ?_, ?_, hgl, rfl, fun b hb => (by cases hb), Marks.nil⟩
    ·rw [s3]
     split
     ·rename_i ht
      have hlt : t < args.length := by omega
      obtain ⟨v, v1, v2⟩ := hargs.get (List.getElem?_eq_getElem hlt)
      have hlt' : t < args'.length := (List.getElem?_eq_some_iff.1 v1).1
      have e1 : args.getD (t - 0) default = args[t] := by simp [hlt]
      rw [e1]
      have e2 : (args'.toArray ++ Array.replicate (fn.ntmps - args'.toArray.size) undef).getD t undef = v := by
       rw [Array.getD_eq_getD_getElem?, Array.getElem?_append_left (by simpa using hlt')]
       simp [v1]
      show VR I args[t] _
      rw [e2]; exact v2
     ·trivial
    ·rw [s2]
     exact ⟨fun d cs h => (by cases h), fun d1 d2 b h => absurd rfl h, fun d b h => absurd rfl h⟩
    ·rw [s2]; exact fun d b h => absurd rfl h
   have hret : ∀ β' I' H1 w' S' a', resD P fn.results.toList S' (fun vs => ret (.ret vs)) H1 n = some lh →
     Inv E P I H w { nt := (args'.toArray ++ Array.replicate (fn.ntmps - args'.toArray.size) undef).size, bars := [] } β' I' H1 w' S' a' →
     LeavesInM (FW none) 0 P fn a'.tmps (fun e w' => ∃ v I', e = .returned v ∧ VR I' r v ∧ Rel I' H' w' ∧ Step I H w I' H' w') a'.defers .returning w' := by
    intro β' I' H1 w2 S' a2 hl hI2
    obtain ⟨Ds, d1, d2, d3⟩ := hI2.defers
    refine leaves_ok ?_ Ds hI2 d1 d2 d3
    intro w' a' hI'
    obtain ⟨vs, lv, g1, g2, g3⟩ := resD_run hI' hl
    simp only [app, ret, Option.some.injEq] at g1
    subst g1
    refine ⟨_, results_run g3, _, I', rfl, ?_, ?_⟩
    ·rcases vs with _ | ⟨v, _ | ⟨u, vs⟩⟩
     ·simp only [Option.some.injEq, Prod.mk.injEq] at h
      obtain ⟨rfl, rfl⟩ := h
      cases g2; exact VR.tup .nil
     ·simp only [Option.some.injEq, Prod.mk.injEq] at h
      obtain ⟨rfl, rfl⟩ := h
      cases g2 with | cons p q => cases q; exact p
     ·simp only [Option.some.injEq, Prod.mk.injEq] at h
      obtain ⟨rfl, rfl⟩ := h
      cases g2 with | cons p q => cases q with | cons p2 q2 => exact VR.tup (.cons p (.cons p2 q2))
    ·have hH : H1 = H' := by
      rcases vs with _ | ⟨v, _ | ⟨u, vs⟩⟩ <;> (simp only [Option.some.injEq, Prod.mk.injEq] at h; exact h.2)
     rw [← hH]; exact ⟨hI'.rel, hI'.step⟩
   refine den_ok (ro := none) hE hmx (fun l e => by cases e) c an 0 [] _ ?_ ?_ ?_ s1 hI ?_ ?_ ?_
   ·intro t ht
    have := List.all_eq_true.1 hchk t ht
    have h2 : t + 1 ≤ fn.ntmps := by simpa [Nat.blt, Nat.ble_eq] using this
    exact ⟨Nat.lt_of_lt_of_le h2 hsz, fun b hb => (by cases hb)⟩
   ·exact fun s hs => hst c hb s hs _ hsz
   ·intro b hb; cases hb
   ·exact fun β' I' H1 w' S' a' hl hI' => hret β' I' H1 w' S' a' hl hI'
   ·intro id lv J hf'; cases hf'
   ·exact fun _ β' I' H1 w' S' a' hl hI' => hret β' I' H1 w' S' a' hl hI'
end
set_option linter.unusedSectionVars false
variable [Sites]
theorem setS_zip : ∀ {J : List JI} {vs : List HV} {S S1 : St}, boxes J = [] → setS J vs S = some S1 → vs.length = (jslots J).length ∧ S1.B = S.B ∧ (∀ t, t ∈ jslots J → ∃ h, (t, h) ∈ (jslots J).zip vs ∧ S1.F.get t = .v h)
 | [], [], S, S1, _, h => by
  simp [setS] at h; subst h
  exact ⟨rfl, rfl, fun t ht => by cases ht⟩
 | .t t sh :: J, v :: vs, S, S1, hb, h => by
  simp only [setS] at h
  obtain ⟨h1, h2, h3⟩ := setS_zip (J := J) hb h
  refine ⟨by simp [jslots, h1], h2, fun x hx => ?_⟩
  by_cases hin : x ∈ jslots J
  ·obtain ⟨u, u1, u2⟩ := h3 x hin
   exact ⟨u, by simp [jslots, u1], u2⟩
  ·have e : x = t := (List.mem_cons.1 hx).resolve_right hin
   subst e
   refine ⟨v, by simp [jslots], ?_⟩
   rw [setS_other h x hin, Fr.get_set, if_pos rfl]
 | .x d shs :: J, vs, S, S1, hb, h => by simp [boxes] at hb
theorem zip_fs : ∀ vs : List (Nat × HV), (vs.map Prod.fst).zip (vs.map Prod.snd) = vs
 | [] => rfl
 | p :: vs => by simp only [List.map_cons, List.zip_cons_cons, zip_fs vs]
theorem fold_get : ∀ (ps : List Nat) (vs : List Value) (T : Array Value), (∀ t, t ∉ ps → ((ps.zip vs).foldl (fun T (p : Nat × Value) => T.setIfInBounds p.1 p.2) T).getD t undef = T.getD t undef) ∧
  (((ps.zip vs).foldl (fun T (p : Nat × Value) => T.setIfInBounds p.1 p.2) T).size = T.size) ∧
  (ps.Nodup → (∀ t ∈ ps, t < T.size) → ∀ t v, (t, v) ∈ ps.zip vs → ((ps.zip vs).foldl (fun T (p : Nat × Value) => T.setIfInBounds p.1 p.2) T).getD t undef = v)
 | [], vs, T => ⟨fun _ _ => rfl, rfl, fun _ _ t v h => by simp at h⟩
 | p :: ps, [], T => ⟨fun _ _ => rfl, rfl, fun _ _ t v h => by simp at h⟩
 | p :: ps, u :: vs, T => by
  obtain ⟨h1, h2, h3⟩ := fold_get ps vs (T.setIfInBounds p u)
  refine ⟨fun t ht => ?_, by simp only [List.zip_cons_cons, List.foldl_cons]; rw [h2]; simp, fun hn hlt t v hm => ?_⟩
  ·simp only [List.mem_cons, not_or] at ht
   simp only [List.zip_cons_cons, List.foldl_cons]
   rw [h1 t ht.2]
   simp only [Array.getD_eq_getD_getElem?]
   rw [Array.getElem?_setIfInBounds_ne (Ne.symm ht.1)]
  ·obtain ⟨n1, n2⟩ := List.nodup_cons.1 hn
   simp only [List.zip_cons_cons, List.foldl_cons]
   rcases List.mem_cons.1 hm with e | hm
   ·cases e
    rw [h1 p n1]
    have := hlt p List.mem_cons_self
    simp [Array.getD_eq_getD_getElem?, this]
   ·exact h3 n2 (fun t ht => by simp; exact hlt t (List.mem_cons_of_mem _ ht)) t v hm
def eqL : List Nat → List Nat → Bool
 | [], [] => true
 | x :: l, y :: m => match Nat.beq x y with
  | true => eqL l m
  | false => false
 | _, _ => false
theorem eqL_eq : ∀ {l m : List Nat}, eqL l m = true → l = m
 | [], [], _ => rfl
 | x :: l, y :: m, h => by
  simp only [eqL] at h
  split at h
  ·rename_i e; rw [Nat.eq_of_beq_eq_true e, eqL_eq h]
  ·cases h
 | [], _ :: _, h => by cases h
 | _ :: _, [], h => by cases h
def ndL : List Nat → Bool
 | [] => true
 | x :: l => match mem x l with
  | true => false
  | false => ndL l
theorem ndL_nd : ∀ {l : List Nat}, ndL l = true → l.Nodup
 | [], _ => List.nodup_nil
 | x :: l, h => by
  simp only [ndL] at h
  split at h
  ·cases h
  ·rename_i e
   refine List.nodup_cons.2 ⟨fun hx => ?_, ndL_nd h⟩
   rw [(mem_iff x l).2 hx] at e; cases e
def ltL (N : Nat) (l : List Nat) : Bool := l.all fun t => Nat.blt t N
theorem ltL_lt {N : Nat} {l : List Nat} (h : ltL N l = true) : ∀ t ∈ l, t < N := fun t ht => by
 have := List.all_eq_true.1 h t ht
 exact Nat.le_of_ble_eq_true this
def emp {α : Type} (l : List α) : Bool := match l with
 | [] => true
 | _ => false
theorem emp_nil {α : Type} {l : List α} (h : emp l = true) : l = [] := by
 cases l with
 | nil => rfl
 | cons x l => cases h
def rndChk (s : Site) (J Jp : List JI) (an1 : Ann) (N : Nat) : Bool :=
 emp (boxes J) && emp (boxes Jp) && eqL (jslots Jp) s.ps.toList && ndL (jslots Jp) && ltL N (jslots Jp) && ltL N (assigned s.a) && ltL N (assigned s.b) && emp (sites s.a an1) && !hasRet s.a
section
variable {E : Env} {P : Program} {I : Inj} {H H' : Heap} {w : World} {n : Nat} {rv : HV}
theorem find_ids {id lv : Nat} {J : List JI} : ∀ {ids : List Nat}, Ctx.find (ids.map fun i => (i, some (0, []))) id = some (lv, J) → lv = 0 ∧ J = []
 | [], h => by cases h
 | i :: ids, h => by
  simp only [List.map_cons, Ctx.find] at h
  split at h
  ·cases h; exact ⟨rfl, rfl⟩
  ·exact find_ids h
theorem round_ok (hE : EnvOk P E) (hmx : P.follows .mixedOrders = true) {l l' N : Nat} {rec : Loop} {s : Site} {esc : List Nat} {J Jp : List JI} {an1 an2 : Ann} {ids : List Nat} {vs : List (Nat × HV)} {args : List HV} {args' : List Value}
  (h : roundL l (roundD E P esc s J Jp an1 an2 ids l vs args) H n = some (rv, H')) (hR : Rel I H w) (hgl : ∀ q hb, E.gl q = some hb → I.j hb = some (q, 0)) (hj : I.j l = some (l', 0))
  (hvs : ∀ p ∈ vs, VR I p.2 (rec.tmps.getD p.1 undef)) (hargs : VRs I args args') (hp : rec.params = s.ps) (ha : rec.assign = s.a) (hb : rec.body = s.b)
  (hrec : w.heap[l']? = some (.loop rec)) (hsb : ∀ s' ∈ sites s.b an2, Sites.ok s'.k 0 rec.tmps.size s'.ps s'.a s'.b) (hck : rndChk s J Jp an1 N = true) (hN : N ≤ rec.tmps.size) :
  args'.toArray.size = rec.params.size ∧ RoundIn (FW none) 0 P l' rec.fn ((rec.params.zip args'.toArray).foldl (fun tmps (t, a) => tmps.setIfInBounds t a) rec.tmps) rec.assign rec.body w
    fun e w' => ∃ v I', e = .returned v ∧ VR I' rv v ∧ Rel I' H' w' ∧ Step I H w I' H' w' := by
 simp only [rndChk, Bool.and_eq_true] at hck
 obtain ⟨⟨⟨⟨⟨⟨⟨⟨k1, k2⟩, k3⟩, k4⟩, k5⟩, k6⟩, k7⟩, k8⟩, k10⟩ := hck
 replace k1 := emp_nil k1
 replace k2 := emp_nil k2
 replace k3 := eqL_eq k3
 replace k4 := ndL_nd k4
 replace k5 := ltL_lt k5
 replace k6 := ltL_lt k6
 replace k7 := ltL_lt k7
 replace k8 := emp_nil k8
 unfold roundL at h
 generalize hm : roundD E P esc s J Jp an1 an2 ids l vs args H n = m at h
 cases m with
 | none => cases h
 | some lh =>
 replace hm : app (gdS (jslots J) vs fun vs' => setJ J vs' ⟨.nil, .bar 0 .nil⟩ fun S => setJ Jp args S fun S1 =>
  den E P (fun d => mem d esc) [] s.a an1 0 [] S1 fun S2 => busyL l (den E P (fun d => mem d esc) [] s.b an2 0 (ids.map fun id => (id, some (0, []))) S2 fun _ => ret (.norm []))) H n = some lh := hm
 unfold gdS at hm
 split at hm
 case h_2 => exact (stk_some (H := H) (n := n) (r := lh) hm).elim
 rename_i hfst
 replace hfst := of_decide_eq_true hfst
 obtain ⟨S, s1, s2⟩ := setJ_some hm
 obtain ⟨S1, t1, t2⟩ := setJ_some s2
 obtain ⟨_, z1, z2⟩ := setS_zip k1 s1
 obtain ⟨y0, y1, y2⟩ := setS_zip k2 t1
 have hzip : (jslots J).zip (vs.map Prod.snd) = vs := by
  rw [← hfst]
  exact zip_fs vs
 refine ⟨by rw [hp, ← Array.length_toList (xs := s.ps), ← k3, ← y0, List.size_toArray]; exact hargs.length, ?_⟩
 refine roundIn_of_wpIn trivial ?_
 rw [ha, hb, hp]
 show s.a.wpIn (FW (some l')) 0 P _ _ w
 obtain ⟨T0, hT0⟩ : ∃ T0, T0 = (s.ps.zip args'.toArray).foldl (fun tmps (p : Nat × Value) => tmps.setIfInBounds p.1 p.2) rec.tmps := ⟨_, rfl⟩
 have hT0' : T0 = ((jslots Jp).zip args').foldl (fun tmps (p : Nat × Value) => tmps.setIfInBounds p.1 p.2) rec.tmps := by
  rw [hT0, ← Array.foldl_toList, Array.toList_zip, k3]
 obtain ⟨g1, g2, g3⟩ := fold_get (jslots Jp) args' rec.tmps
 rw [← hT0'] at g1 g2 g3
 have hI : Inv E P I H w { nt := T0.size, bars := [] } (fun _ => none) I H w S1 { tmps := T0, defers := [] } := by
  have hB : ∀ d, S1.B.get d = none := by rw [y1, z1]; intro d; rfl
  refine ⟨.refl I H w, hR, fun t => ?_, ⟨fun d cs h => ?_, fun d1 d2 b h => ?_, fun d b h => ?_⟩, fun d b h => ?_, hgl, rfl, fun b hb => (by cases hb), Marks.nil⟩
  ·show SVR I (fun _ => none) S1.B (S1.F.get t) (T0.getD t undef)
   by_cases hin : t ∈ jslots Jp
   ·obtain ⟨u, u1, u2⟩ := y2 t hin
    rw [u2]
    obtain ⟨i, hi⟩ := List.mem_iff_getElem?.1 u1
    rw [List.getElem?_zip_eq_some] at hi
    obtain ⟨v, v1, v2⟩ := hargs.get hi.2
    rw [g3 k4 (fun t ht => Nat.lt_of_lt_of_le (k5 t ht) hN) t v (List.mem_iff_getElem?.2 ⟨i, by rw [List.getElem?_zip_eq_some]; exact ⟨hi.1, v1⟩⟩)]
    exact v2
   ·rw [setS_other t1 t hin, g1 t hin]
    by_cases hin2 : t ∈ jslots J
    ·obtain ⟨u, u1, u2⟩ := z2 t hin2
     rw [u2]
     rw [hzip] at u1
     exact hvs _ u1
    ·rw [setS_other s1 t hin2]; trivial
  ·rw [hB] at h; cases h
  ·rw [hB] at h; exact absurd rfl h
  ·rw [hB] at h; exact absurd rfl h
  ·rw [hB] at h; exact absurd rfl h
 have hsz : ∀ t, t < N → t < T0.size := fun t ht => by rw [g2]; omega
 have hS0 : ∀ {c : Code} {an : Ann} {nt : Nat}, sites c an = [] → siteOk nt c an := fun e s hs => by rw [e] at hs; cases hs
 rw [show (s.ps.zip args'.toArray).foldl (fun tmps (x : Tmp × Value) => match x with | (t, a) => tmps.setIfInBounds t a) rec.tmps = T0 from hT0.symm]
 have hro : ∀ x, some l' = some x → ∃ r, w.heap[x]? = some (.loop r) := fun x e => by cases e; exact ⟨rec, hrec⟩
 refine den_ok hE hmx hro s.a an1 0 [] _ (fun t ht => ⟨hsz t (k6 t ht), fun b hb => (by cases hb)⟩) (hS0 k8) (fun b hb => (by cases hb)) t2 hI ?_ (fun id lv J hf => (by cases hf)) ?_
 ·-- the round begins
  intro β2 I2 H2 w2 S2 a2 h2 hI2
  have hj2 := hI2.step.le.j _ _ hj
  replace h2 : busyL l (den E P (fun d => mem d esc) [] s.b an2 0 (ids.map fun id => (id, some (0, []))) S2 fun _ => ret (.norm [])) H2 n = some lh := h2
  unfold busyL at h2
  split at h2
  case h_2 => cases h2
  rename_i k3' vs3 st3 pd3 hg2
  split at h2
  case h_2 => cases h2
  obtain ⟨_, _, hr2, hq2⟩ := hI2.rel.spc _ _ _ _ hj2 hg2
  obtain ⟨r2, rfl, hL2⟩ := hq2.is_loop
  obtain ⟨e1, e2, e3, e4⟩ := hL2
  refine ⟨_, run_beginRound hr2 e1, ?_⟩
  have hrel3 := hI2.rel.setL hj2 hg2 hr2 .busy pd3
  have hstep3 := Step.setL hj2 hg2 .busy pd3 { r2 with state := .busy, pending := pd3 } (w := w2)
  have hI3 := hI2.heapput hstep3 hrel3
  rw [show ({ r2 with state := .busy, pending := pd3 } : Loop) = { r2 with state := .busy } by rw [← e2]] at hI3
  -- how a round ends
  have fin : ∀ {β4 I4 H4 w4 S4 a4} (st4 : LoopState) (jump : Option Code), Inv E P I H w { nt := T0.size, bars := [] } β4 I4 H4 w4 S4 a4 → st4 = (if jump.isNone then .ready else .done) →
    doneL l st4 jump (ret (.bool jump.isNone)) H4 n = some (rv, H') → ∃ v w', (Instr.endRound l' jump).run P w4 = .ok v w' ∧ ∃ u I', Ending.returned v = .returned u ∧ VR I' rv u ∧ Rel I' H' w' ∧ Step I H w I' H' w' := by
   intro β4 I4 H4 w4 S4 a4 st4 jump hI4 hst hd
   unfold doneL at hd
   split at hd
   case h_2 => cases hd
   rename_i k5' vs5 st5 pd5 hg5
   have hj4 := hI4.step.le.j _ _ hj
   obtain ⟨_, _, hr5, hq5⟩ := hI4.rel.spc _ _ _ _ hj4 hg5
   obtain ⟨r5, rfl, hL5⟩ := hq5.is_loop
   simp only [ret, Option.some.injEq, Prod.mk.injEq] at hd
   obtain ⟨rfl, rfl⟩ := hd
   refine ⟨_, _, run_endRound jump hr5, _, I4, rfl, VR.bool _, ?_, ?_⟩
   ·rw [hst]; exact hI4.rel.setL hj4 hg5 hr5 _ _
   ·rw [hst]; exact hI4.step.trans (Step.setL hj4 hg5 _ _ _)
  refine den_ok hE hmx hro s.b an2 0 _ _ (fun t ht => ⟨hsz t (k7 t ht), fun b hb => (by cases hb)⟩) (by rw [g2]; exact hsb) (fun b hb => (by cases hb)) h2 hI3 ?_ ?_ ?_
  ·intro β4 I4 H4 w4 S4 a4 h4 hI4
   simp only [ret, Option.some.injEq] at h4
   subst h4
   exact fin .ready none hI4 rfl h
  ·intro id lv J4 hf β4 I4 H4 w4 S4 a4 h4 hI4
   obtain ⟨rfl, rfl⟩ := find_ids hf
   obtain ⟨vs4, _, _, rfl⟩ := leafX_some h4
   exact fin .done (some (.exit id)) hI4 rfl h
  ·intro _ β4 I4 H4 w4 S4 a4 h4 hI4
   simp only [resD, ret, Option.some.injEq] at h4
   subst h4
   exact fin .done (some .ret) hI4 rfl h
 ·intro e; rw [e] at k10; cases k10
end
end Go.Proofs.YtbphjihgbenkdaaGreat.HQ
