/- A function of the model is as its text says. Conditions: what is called is told by its text (EnvOk); mixedOrders. -/
import Derived.Test.YtijppadieomnjaaHMR
namespace Go.Proofs.Ytijppadieomnjaa.HM
open Go
set_option linter.unusedSectionVars false
variable [Sites]
section
variable {E : Env} {P : Program} {I0 : Inj} {H0 : Heap} {w0 : World} {cx : Cx} {β : Nat → Option Nat} {I : Inj} {H : Heap} {w : World} {S : St} {a : Act}
variable {n : Nat} {r : Leaf × Heap}

theorem load_run {t : TypeId} {s : SV} {v : Value} {K : SV → St → M Leaf} (hI : Inv E P I0 H0 w0 cx β I H w S a) (hs : SVR I β S.B s v) (h : loadD P t s S K H n = some r) :
    ∃ hv u A, app (K (.v hv) S) H n = some r ∧ VR I hv u ∧ v = .pointer (some A) ∧ (loadVar t A).run P w = .ok u w := by
  replace h : app (loadD P t s S K) H n = some r := h
  unfold loadD at h
  split at h
  · rename_i d off
    split at h
    · rename_i cs eb
      obtain ⟨_, b, hb, hv⟩ := hs
      obtain ⟨b2, c, el, h1, h2, h3, h4⟩ := hI.br.box d cs eb
      rw [hb] at h1; cases h1
      rcases partA_some h with ⟨e, h5, h6⟩ | ⟨e, v', h5, h6⟩
      · obtain ⟨l, g1, g2, g3, g4⟩ := cells_slice (d := 0) (box_cells0 h3 h4) h5
        have hl := run_loadVar_ag (w := w) (A := ⟨b, off, none⟩) e g1 (fun j v hj => by rw [add_none, cell_of h2]; simpa using g4 j v hj)
        exact ⟨_, _, _, h6, VR.agg g2 g3, hv, hl⟩
      · obtain ⟨u, g1, g2⟩ := box_cells h3 h4 off v' h5
        have hl := run_loadVar_sc (w := w) (A := ⟨b, off, none⟩) e (by rw [cell_of h2]; exact g1)
        exact ⟨_, _, _, h6, g2.1, hv, hl⟩
    · exact (stk_some h).elim
  · rename_i p
    obtain ⟨hb, ho', rfl, h⟩ := mP_some h
    have hv : VR I (.ptr (some (hb, ho'))) v := hs
    cases hv with
    | ptr hj =>
      rename_i b' d
      split at h
      · rename_i e
        obtain ⟨cs, ro, g1, g2, g3⟩ := ldN_some h
        obtain ⟨c, el, fr, q1, q2, _⟩ := hI.rel.obj hb b' d cs ro hj g1
        obtain ⟨l, p1, p2, p3, p4⟩ := cells_slice q2 g2
        have hl := run_loadVar_ag (w := w) (A := ⟨b', d + ho', none⟩) e p1 (fun j v hj => by rw [add_none, cell_of q1]; exact p4 j v hj)
        exact ⟨_, _, _, Sh1.d_some g3, VR.agg p2 p3, rfl, hl⟩
      · rename_i e
        obtain ⟨cs, ro, v', g1, g2, g3⟩ := ldC_some h
        obtain ⟨c, el, fr, q1, q2, _⟩ := hI.rel.obj hb b' d cs ro hj g1
        obtain ⟨u, p1, p2⟩ := q2 _ _ g2
        have hl := run_loadVar_sc (w := w) (A := ⟨b', d + ho', none⟩) e (by rw [cell_of q1]; exact p1)
        exact ⟨_, _, _, Sh1.d_some g3, p2.1, rfl, hl⟩
      · exact (stk_some h).elim
  · exact (stk_some h).elim

/-- one result variable. -/
def resOne (tmps : Array Value) : ResultVar → Sem Value
  | .tmp t => pure (tmps.getD t undef)
  | .cell a t => do loadVar t (← asAddr (tmps.getD a undef))

theorem resD_run (hI : Inv E P I0 H0 w0 cx β I H w S a) : ∀ {l : List ResultVar} {K : List HV → M Leaf}, resD P l S K H n = some r →
    ∃ vs lv, app (K vs) H n = some r ∧ VRs I vs lv ∧ (l.mapM (resOne a.tmps)).run P w = .ok lv w
  | [], K, h => ⟨[], [], h, .nil, by simp⟩
  | .tmp t :: l, K, h => by
    replace h : app (resD P (.tmp t :: l) S K) H n = some r := h
    unfold resD at h
    split at h
    · rename_i hv ht
      obtain ⟨vs, lv, h1, h2, h3⟩ := resD_run hI h
      have hv' := hI.fr t
      rw [ht] at hv'
      exact ⟨_, _, h1, .cons hv' h2, by simp only [List.mapM_cons, resOne, Sem.run_bind, Sem.run_pure, Result.andThen_ok, h3]⟩
    · exact (stk_some h).elim
  | .cell x t :: l, K, h => by
    replace h : app (resD P (.cell x t :: l) S K) H n = some r := h
    unfold resD at h
    obtain ⟨hv, u, A, h1, h2, h3, h4⟩ := load_run hI (hI.fr x) h
    obtain ⟨vs, lv, g1, g2, g3⟩ := resD_run hI h1
    exact ⟨_, _, g1, .cons h2 g2, by simp only [List.mapM_cons, resOne, Sem.run_bind, h3, asAddr, Sem.run_pure, Result.andThen_ok, h4, g3]⟩

theorem results_run {fn : Func} {tmps : Array Value} {lv : List Value} (h : (fn.results.toList.mapM (resOne tmps)).run P w = .ok lv w) :
    (results fn tmps).run P w = .ok (match lv with | [v] => v | l => .tuple l.toArray) w := by
  have e : results fn tmps = (do let vs ← fn.results.mapM (resOne tmps); pure (if h : vs.size = 1 then vs[0] else .tuple vs)) := by
    unfold results; congr 1
  rw [e, Array.mapM_eq_mapM_toList]
  simp only [Sem.run_bind, Sem.run_map, h, Result.andThen_ok, Sem.run_pure]
  rcases lv with _ | ⟨v, _ | ⟨u, l⟩⟩ <;> simp

theorem params_some {l : List Sh1} : ∀ {i : Nat} {vs : List HV} {S : St} {K : St → M Leaf}, params l i vs S K H n = some r →
    ∃ S', app (K S') H n = some r ∧ S'.B = S.B ∧ ∀ t, S'.F.get t = if i ≤ t ∧ t < i + vs.length then .v (vs.getD (t - i) default) else S.F.get t := by
  induction l with
  | nil =>
    intro i vs S K h
    simp only [params] at h
    obtain ⟨rfl, h⟩ := nl_some h
    exact ⟨S, h, rfl, fun t => by rw [if_neg (by simp only [List.length_nil]; omega)]⟩
  | cons sh l ih =>
    intro i vs S K h
    simp only [params] at h
    obtain ⟨v, vs, rfl, h⟩ := uc_some h
    obtain ⟨S', h1, h2, h3⟩ := ih (Sh1.d_some h)
    refine ⟨S', h1, h2, fun t => ?_⟩
    rw [h3]
    by_cases e : i + 1 ≤ t ∧ t < i + 1 + vs.length
    · rw [if_pos e, if_pos (by simp only [List.length_cons]; omega)]
      rw [show t - i = (t - (i + 1)) + 1 by omega]; rfl
    · rw [if_neg e, Fr.get_set]
      by_cases e2 : t = i
      · subst e2; rw [if_pos rfl, if_pos (by simp only [List.length_cons]; omega), Nat.sub_self]; rfl
      · rw [if_neg e2, if_neg (by simp only [List.length_cons]; omega)]

/-- a mark's block is shut. -/
theorem Inv.shut {D : Nat} {o : Obj} {a : Act} {ds : List Deferred} (hI : Inv E P I0 H0 w0 cx β I H w S a) (hD : w.heap[D]? = some (.deferred (some []))) (h0 : w0.heap.size ≤ D) (hj : ∀ x e, I.j x ≠ some (D, e)) (hd : Marks I w0 (w.putObj D o) ds) :
    Inv E P I0 H0 w0 cx β I H (w.putObj D o) S { a with defers := ds } where
  step := {
    ext := ⟨hI.step.ext.1, hI.step.ext.2⟩
    le := hI.step.le
    n := hI.step.n
    size := by rw [putObj_size]; exact hI.step.size
    keep := fun b hb hn hl => by
      rw [putObj_ne (by omega)]; exact hI.step.keep b hb hn hl
    img1 := hI.step.img1
    img2 := hI.step.img2
    img3 := hI.step.img3 }
  rel := hI.rel.other hj (fun c el fr hc => by rw [hD] at hc; cases hc)
  fr := hI.fr
  br := ⟨fun d cs hd => by
    obtain ⟨b, c, el, q1, q2, q3⟩ := hI.br.box d cs hd
    have : b ≠ D := fun hh => by subst hh; rw [hD] at q2; cases q2
    exact ⟨b, c, el, q1, by rw [putObj_ne this]; exact q2, q3⟩, hI.br.inj, hI.br.img⟩
  fresh := hI.fresh
  gl := hI.gl
  sz := hI.sz
  anc := hI.anc
  defers := hd

theorem leaves_ok {fn : Func} {R : Ending → World → Prop} (hfin : ∀ w a, Inv E P I0 H0 w0 cx β I H w S a → ∃ v, (results fn a.tmps).run P w = .ok v w ∧ R (.returned v) w) : ∀ (Ds : List Nat) {w : World} {a : Act}, Inv E P I0 H0 w0 cx β I H w S a →
    a.defers = Ds.map (fun D => { target := .collected D, args := #[] }) → Ds.Nodup → (∀ D ∈ Ds, w.heap[D]? = some (.deferred (some [])) ∧ w0.heap.size ≤ D ∧ ∀ x e, I.j x ≠ some (D, e)) →
    LeavesInM (FW none) 0 P fn a.tmps R a.defers .returning w
  | [], w, a, hI, hd, _, _ => by
    rw [hd]; exact hfin w a hI
  | D :: Ds, w, a, hI, hd, hnd, hc => by
    obtain ⟨c1, c2, c3⟩ := hc D List.mem_cons_self
    obtain ⟨n1, n2⟩ := List.nodup_cons.1 hnd
    have hc' : ∀ D' ∈ Ds, (w.putObj D (.deferred none)).heap[D']? = some (.deferred (some [])) ∧ w0.heap.size ≤ D' ∧ ∀ x e, I.j x ≠ some (D', e) := fun D' hD' => by
      obtain ⟨d1, d2, d3⟩ := hc D' (List.mem_cons_of_mem _ hD')
      exact ⟨by rw [putObj_ne (l := D) (x := D') (fun hh => by subst hh; exact n1 hD')]; exact d1, d2, d3⟩
    have hI' := hI.shut (o := .deferred none) c1 c2 c3 (ds := Ds.map (fun D => { target := .collected D, args := #[] })) ⟨Ds, rfl, n2, hc'⟩
    have := leaves_ok hfin Ds hI' rfl n2 hc'
    rw [hd]
    exact ⟨by simp, .inl ⟨D, _, rfl, run_takeDeferred c1, this⟩⟩

theorem fn_ok {esc : List Nat} {an : Ann} {f : Nat} {fn : Func} {fv : List Sh1} (hE : EnvOk P E) (hmx : P.follows .mixedOrders = true) (hf : P.funcs[f]? = some fn)
    (hchk : (match fn.body with | some c => (assigned c).all (fun t => Nat.blt t fn.ntmps) | none => false) = true) (hname : (fn.name == "runtime.NumGoroutine") = false)
    (hst : ∀ c, fn.body = some c → ∀ s ∈ sites c an, ∀ m, fn.ntmps ≤ m → Sites.ok s.k 0 m s.ps s.a s.b) : FnOk P E.gl f (fnD E P esc an fn fv) := by
  cases hb : fn.body with
  | none => rw [hb] at hchk; cases hchk
  | some c =>
    rw [hb] at hchk
    refine ⟨⟨fn, c, hf, hb, hname⟩, ?_⟩
    intro args H n r H' h I w args' hR hgl hargs
    replace h : app (fnD E P esc an fn fv args) H n = some (r, H') := h
    unfold fnD at h
    rw [hb] at h
    simp only at h
    replace h : fin _ H n = some (r, H') := h
    unfold fin at h
    generalize hm : params (sh1s P fn.params.toList ++ fv) 0 args ⟨.nil, .nil⟩ (fun S => den E P (fun d => mem d esc) fn.results.toList c an 0 [] S fun S' => resD P fn.results.toList S' fun vs => ret (.ret vs)) H n = m at h
    cases m with
    | none => cases h
    | some lh =>
      obtain ⟨S, s1, s2, s3⟩ := params_some hm
      refine callsIn_FW.1 (callsIn_of_wp_marks (F := FW none) (n := 0) hf hb trivial ?_)
      have hsz : (args'.toArray ++ Array.replicate (fn.ntmps - args'.toArray.size) undef).size ≥ fn.ntmps := by simp; omega
      have hI : Inv E P I H w { nt := (args'.toArray ++ Array.replicate (fn.ntmps - args'.toArray.size) undef).size, bars := [] } (fun _ => none) I H w S { tmps := args'.toArray ++ Array.replicate (fn.ntmps - args'.toArray.size) undef, defers := [] } := by
        refine ⟨.refl I H w, hR, fun t => ?_, ?_, ?_, hgl, rfl, fun b hb => (by cases hb), Marks.nil⟩
        · rw [s3]
          split
          · rename_i ht
            have hlt : t < args.length := by omega
            obtain ⟨v, v1, v2⟩ := hargs.get (List.getElem?_eq_getElem hlt)
            have hlt' : t < args'.length := (List.getElem?_eq_some_iff.1 v1).1
            have e1 : args.getD (t - 0) default = args[t] := by simp [hlt]
            rw [e1]
            have e2 : (args'.toArray ++ Array.replicate (fn.ntmps - args'.toArray.size) undef).getD t undef = v := by
              rw [Array.getD_eq_getD_getElem?, Array.getElem?_append_left (by simpa using hlt')]
              simp [v1]
            show VR I args[t] _
            rw [e2]; exact v2
          · trivial
        · rw [s2]
          exact ⟨fun d cs h => (by cases h), fun d1 d2 b h => absurd rfl h, fun d b h => absurd rfl h⟩
        · rw [s2]; exact fun d b h => absurd rfl h
      have hret : ∀ β' I' H1 w' S' a', resD P fn.results.toList S' (fun vs => ret (.ret vs)) H1 n = some lh →
          Inv E P I H w { nt := (args'.toArray ++ Array.replicate (fn.ntmps - args'.toArray.size) undef).size, bars := [] } β' I' H1 w' S' a' →
          LeavesInM (FW none) 0 P fn a'.tmps (fun e w' => ∃ v I', e = .returned v ∧ VR I' r v ∧ Rel I' H' w' ∧ Step I H w I' H' w') a'.defers .returning w' := by
        intro β' I' H1 w2 S' a2 hl hI2
        obtain ⟨Ds, d1, d2, d3⟩ := hI2.defers
        refine leaves_ok ?_ Ds hI2 d1 d2 d3
        intro w' a' hI'
        obtain ⟨vs, lv, g1, g2, g3⟩ := resD_run hI' hl
        simp only [app, ret, Option.some.injEq] at g1
        subst g1
        refine ⟨_, results_run g3, _, I', rfl, ?_, ?_⟩
        · rcases vs with _ | ⟨v, _ | ⟨u, vs⟩⟩
          · simp only [Option.some.injEq, Prod.mk.injEq] at h
            obtain ⟨rfl, rfl⟩ := h
            cases g2; exact VR.tup .nil
          · simp only [Option.some.injEq, Prod.mk.injEq] at h
            obtain ⟨rfl, rfl⟩ := h
            cases g2 with | cons p q => cases q; exact p
          · simp only [Option.some.injEq, Prod.mk.injEq] at h
            obtain ⟨rfl, rfl⟩ := h
            cases g2 with | cons p q => cases q with | cons p2 q2 => exact VR.tup (.cons p (.cons p2 q2))
        · have hH : H1 = H' := by
            rcases vs with _ | ⟨v, _ | ⟨u, vs⟩⟩ <;> (simp only [Option.some.injEq, Prod.mk.injEq] at h; exact h.2)
          rw [← hH]; exact ⟨hI'.rel, hI'.step⟩
      refine den_ok (ro := none) hE hmx c an 0 [] _ ?_ ?_ ?_ s1 hI ?_ ?_ ?_
      · intro t ht
        have := List.all_eq_true.1 hchk t ht
        have h2 : t + 1 ≤ fn.ntmps := by simpa [Nat.blt, Nat.ble_eq] using this
        exact ⟨Nat.lt_of_lt_of_le h2 hsz, fun b hb => (by cases hb)⟩
      · exact fun s hs => ⟨rfl, hst c hb s hs _ hsz⟩
      · intro b hb; cases hb
      · exact fun β' I' H1 w' S' a' hl hI' => hret β' I' H1 w' S' a' hl hI'
      · intro id lv J hf'; cases hf'
      · exact fun _ β' I' H1 w' S' a' hl hI' => hret β' I' H1 w' S' a' hl hI'
end
end Go.Proofs.Ytijppadieomnjaa.HM
