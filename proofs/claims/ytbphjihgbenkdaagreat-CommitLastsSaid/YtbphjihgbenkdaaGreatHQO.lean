/- Lemmas for the row. Conditions: none. -/
import Derived.Test.YtbphjihgbenkdaaGreatHQNs
namespace Go.Proofs.YtbphjihgbenkdaaGreat.HQ
set_option linter.unusedVariables false
set_option linter.unusedSectionVars false
set_option linter.unusedSimpArgs false
open Go
set_option linter.unusedSectionVars false
variable [Sites]
section
variable {E : Env} {P : Program} {I0 : Inj} {H0 : Heap} {w0 : World} {nt : Cx} {β : Nat → Option Nat} {I : Inj} {H : Heap} {w : World} {S : St} {a : Act}
variable {K : SV → St → M Leaf} {n : Nat} {r : Leaf × Heap} {next : Act → World → Prop} {Q : Exit → Act → World → Prop} {o : Oper} {ro : Option Nat}
theorem ev_opt (hI : Inv E P I0 H0 w0 nt β I H w S a) (x : Option Operand) {d v : Int} (h : oInt d (x.map (S.ev E)) = some v) : (x.map a.eval = none ∧ v = d) ∨ ∃ k, x.map a.eval = some (.int k v) := by
 cases x with
 | none => simp [oInt] at h; exact .inl ⟨rfl, h.symm⟩
 | some x =>
  refine .inr ?_
  simp only [Option.map_some] at h ⊢
  unfold oInt at h
  split at h
  ·simp at *
  ·rename_i k m heq
   cases h
   simp only [Option.some.injEq] at heq
   have := hI.evv heq
   generalize a.eval x = u at this
   cases this
   exact ⟨k, rfl⟩
  ·cases h
theorem slc_ok {t : TypeId} {x : Operand} {lo hi mx : Option Operand} (hI : Inv E P I0 H0 w0 nt β I H w S a) (h : slcD P t (S.ev E x) (lo.map (S.ev E)) (hi.map (S.ev E)) (mx.map (S.ev E)) S K H n = some r) (ho : o.op = .slice t x lo hi mx)
  (hmx : mx ≠ none → hi ≠ none) (hk : Kont E P I0 H0 w0 nt K n r a o.dst next) : o.wpIn (FW ro) 0 P a w next Q := by
 replace h : app (slcD P t (S.ev E x) (lo.map (S.ev E)) (hi.map (S.ev E)) (mx.map (S.ev E)) S K) H n = some r := h
 unfold slcD at h
 split at h
 ·rename_i e s hu ex
  have hx := hI.evv ex
  split at h
  ·rename_i l hh m el eh em
   split at h
   ·rename_i inf hinf
    obtain ⟨g0, h⟩ := gd_some h
    obtain ⟨g1, h⟩ := gd_some h
    obtain ⟨g2, h⟩ := gd_some h
    obtain ⟨g3, h⟩ := gd_some h
    obtain ⟨g4, h⟩ := gd_some h
    have g0 : 0 ≤ l := by simpa using g0
    have g1 : l ≤ hh := by simpa using g1
    have g2 : hh ≤ m := by simpa using g2
    have g3 : m ≤ (s.cap : Int) := by simpa using g3
    have hl := ev_opt hI lo el
    have hhh := ev_opt hI hi eh
    have hm := ev_opt hI mx em
    obtain ⟨p, len, cap, opn⟩ := s
    simp only at g3 g4 hhh hm h
    -- the model's capacity
    have hcap : ∃ q cap', a.eval x = .slice q len cap' ∧ cap ≤ cap' ∧ (q = none ↔ p = none) ∧ (p = none → cap' = cap) := by
     generalize a.eval x = v1 at hx
     cases hx with
     | slN => exact ⟨none, cap, rfl, Nat.le_refl _, by simp, fun _ => rfl⟩
     | slE => exact ⟨_, 0, rfl, Nat.le_refl _, by simp, fun h => by cases h⟩
     | @slO _ _ c A => exact ⟨_, c, rfl, by omega, by simp, fun h => by cases h⟩
     | sl hj w1 w2 w3 => exact ⟨_, _, rfl, w1, by simp, fun h => by cases h⟩
    obtain ⟨q, cap', hq, hcc, hqp, hpc⟩ := hcap
    rw [hq] at hx
    -- the model's bounds
    have hbd : ∃ m', (m' = m ∨ (m' = (cap' : Int) ∧ m = cap ∧ mx = none)) ∧ (mx = none → m' = (cap' : Int)) ∧ m ≤ m' ∧ m' ≤ (cap' : Int) ∧
      ∀ w, (Instr.sliceBounds true len cap' (lo.map a.eval) (hi.map a.eval) (mx.map a.eval)).run P w = .ok (l.toNat, hh.toNat, m'.toNat) w := by
     rcases hm with ⟨hm1, hm2⟩ | ⟨km, hm1⟩
     ·refine ⟨cap', .inr ⟨rfl, hm2, by cases mx <;> simp at hm1 ⊢⟩, fun _ => rfl, by omega, Int.le_refl _, fun w => ?_⟩
      exact run_bounds hl hhh (.inl ⟨hm1, rfl⟩) g0 g1 (by omega) (Int.le_refl _) w
     ·refine ⟨m, .inl rfl, fun hn => by subst hn; simp at hm1, Int.le_refl _, by omega, fun w => ?_⟩
      refine run_bounds hl hhh (.inr ⟨⟨km, hm1⟩, ?_⟩) g0 g1 g2 (by omega) w
      have : mx ≠ none := by intro hn; subst hn; simp at hm1
      have := hmx this
      cases hi with
      | none => exact absurd rfl this
      | some _ => simp
    obtain ⟨m', hm', hmn, hmm, hmc, hrun⟩ := hbd
    have hsz := run_sizeT hinf w
    have hex : (execOp a.eval o).run P w = .ok (.value (.slice (if m'.toNat = l.toNat then q else q.map (·.add (l.toNat * sizeT P e))) (hh.toNat - l.toNat) (m'.toNat - l.toNat))) w := by
     simp only [execOp, ho, Sem.run_bind, Instr.sliceAt, run_underlying hu, Result.andThen_ok, Instr.slice, hq, hrun, hsz, Sem.run_pure]
    refine wp_value hex (hk _ _ _ _ _ _ _ h hI ?_)
    have e1 : (hh - l).toNat = hh.toNat - l.toNat := by omega
    have e2 : (m - l).toNat = m.toNat - l.toNat := by omega
    show VR I (.sl ⟨_, (hh - l).toNat, (m - l).toNat, _⟩) _
    rw [e1, e2]
    cases hx with
    | slN =>
     have hmeq : m' = m := by
      rcases hm' with h1 | ⟨h1, h2, _⟩
      ·exact h1
      ·have := hpc rfl; omega
     rw [hmeq]
     by_cases hml : m = l
     ·rw [hml]; simp only [decide_true, cond_true, if_true]; exact VR.slN
     ·have : ¬ m.toNat = l.toNat := by omega
      rw [if_neg this]; simp only [hml, decide_false, cond_false, Option.map_none]; exact VR.slN
    | slE =>
     have q1 : l = 0 := by omega
     have q2 : hh = 0 := by omega
     have q3 : m = 0 := by omega
     have q4 : m' = 0 := by omega
     subst q1; subst q2; subst q3; subst q4
     cases mx <;> simp [slOp] <;> exact VR.slE
    | @slO b0 o0 c A =>
     have q1 : l = 0 := by omega
     have q2 : hh = 0 := by omega
     have q3 : m = 0 := by omega
     subst q1; subst q2; subst q3
     cases mx with
     | none =>
      by_cases hq : m'.toNat = (0 : Int).toNat
      ·rw [if_pos hq]; exact VR.slO
      ·rw [if_neg hq, Option.map_some]; exact VR.slO
     | some mm =>
      have q4 : m' = 0 := by
       rcases hm' with h1 | ⟨_, _, h3⟩
       ·exact h1
       ·cases h3
      subst q4
      simp
      exact VR.slE
    | sl hj w1 w2 w3 =>
     rename_i b oo b' d
     by_cases hexact : m' = m
     ·rw [hexact]
      -- the capacity is the same on both sides
      have hopn : ∀ es, (bif (mx.map (S.ev E)).isSome then none else slOp opn true) = some es → opn = some es ∧ mx = none := by
       intro es h; cases mx with
       | none => cases opn with
        | none => simp [slOp] at h
        | some _ => simp [slOp] at h; subst h; exact ⟨rfl, rfl⟩
       | some _ => simp at h
      by_cases hml : m = l
      ·rw [hml]; simp only [decide_true, cond_true, if_true]
       have hlt : decide (l < l) = false := by simp
       rw [hlt]
       have hh2 : hh.toNat - l.toNat = 0 := by omega
       rw [hh2, Nat.sub_self]
       cases mx with
       | some _ => exact VR.slE
       | none => cases opn with
        | none => exact VR.slE
        | some _ => exact VR.slO
      ·have : ¬ m.toNat = l.toNat := by omega
       have hlt : decide (l < m) = true := by simp; omega
       rw [if_neg this]; simp only [hml, decide_false, cond_false, Option.map_some, hlt]
       rw [add_none, Nat.add_assoc]
       refine VR.sl hj (Nat.le_refl _) (fun _ => rfl) (fun es hes => ?_)
       obtain ⟨ho1, hmx0⟩ := hopn es hes
       subst hmx0
       simp [slOk, ho1] at g4
       obtain ⟨s, s1, s2⟩ := w3 es ho1
       refine ⟨s, s1, ?_⟩
       rw [← g4]
       have hcapm := hmn rfl
       have : cap' = m.toNat := by omega
       have e3 : cap' * es = l.toNat * es + (m.toNat - l.toNat) * es := by rw [← Nat.add_mul]; congr 1; omega
       omega
     ·rcases hm' with h1 | ⟨h1, h2, h3⟩
      ·exact absurd h1 hexact
      ·subst h3
       have hopn : opn ≠ none := by
        intro ho1; have := w2 ho1; omega
       obtain ⟨es, hes⟩ := Option.ne_none_iff_exists'.1 hopn
       simp [slOk, hes] at g4
       by_cases hml : m = l
       ·have hlt : decide (l < m) = false := by simp; omega
        have e0 : hh.toNat - l.toNat = 0 := by omega
        have e1 : m.toNat - l.toNat = 0 := by omega
        rw [e0, e1, hlt, hes]
        simp only [hml, decide_true, cond_true, Option.map_none, Option.isSome_none, cond_false]
        by_cases hq : m'.toNat = l.toNat
        ·rw [if_pos hq]; exact VR.slO
        ·rw [if_neg hq, Option.map_some]; exact VR.slO
       have hml2 : ¬ m'.toNat = l.toNat := by omega
       have hlt : decide (l < m) = true := by simp; omega
       have hso : slOp opn true = opn := by rw [hes]; rfl
       rw [if_neg hml2]; simp only [hml, decide_false, cond_false, Option.map_some, Option.map_none, Option.isSome_none, hlt, hso]
       rw [add_none, Nat.add_assoc]
       refine VR.sl hj (by omega) (fun h => absurd h hopn) (fun es' hes' => ?_)
       rw [hes] at hes'; cases hes'
       obtain ⟨s, s1, s2⟩ := w3 es hes
       refine ⟨s, s1, ?_⟩
       rw [← g4]
       have : cap' = m'.toNat := by omega
       have e3 : cap' * es = l.toNat * es + (m'.toNat - l.toNat) * es := by rw [← Nat.add_mul]; congr 1; omega
       omega
   ·exact (stk_some h).elim
  ·exact (stk_some h).elim
 ·rename_i s hu ex
  have hx := hI.evv ex
  generalize hxv : a.eval x = v1 at hx
  cases hx
  split at h
  ·rename_i l hh hmx0 el eh
   obtain ⟨g0, h⟩ := gd_some h
   obtain ⟨g1, h⟩ := gd_some h
   obtain ⟨g2, h⟩ := gd_some h
   have g0 : 0 ≤ l := by simpa using g0
   have g1 : l ≤ hh := by simpa using g1
   have g2 : hh ≤ (s.size : Int) := by simpa using g2
   have hl := ev_opt hI lo el
   have hhh := ev_opt hI hi eh
   have hmn : mx = none := by cases mx <;> simp at hmx0 ⊢
   subst hmn
   have hrun := fun w => run_bounds (P := P) (isS := false) (len := s.size) (cap := s.size) hl hhh (.inl ⟨rfl, rfl⟩) g0 g1 (by omega : hh ≤ (s.size : Int)) (Int.le_refl _) w
   have hex : (execOp a.eval o).run P w = .ok (.value (.string (s.extract l.toNat hh.toNat))) w := by
    simp only [execOp, ho, Sem.run_bind, Instr.sliceAt, run_underlying hu, Result.andThen_ok, Instr.slice, hxv, Option.map_none, Option.isSome_none, Bool.false_eq_true, if_false, hrun, Sem.run_pure]
   exact wp_value hex (hk _ _ _ _ _ _ _ h hI (VR.str _))
  ·exact (stk_some h).elim
 ·exact (stk_some h).elim
theorem arr2 {α : Type} {xs : Array α} {x y : α} (h0 : xs[0]? = some x) (h1 : xs[1]? = some y) (h2 : xs[2]? = none) : xs.toList = [x, y] := by
 have hs : xs.size ≤ 2 := Array.getElem?_eq_none_iff.1 h2
 obtain ⟨l⟩ := xs
 simp at h0 h1 hs ⊢
 rcases l with _ | ⟨u, _ | ⟨v, _ | ⟨z, l⟩⟩⟩
 ·simp at h0
 ·simp at h1
 ·simp at h0 h1; subst h0; subst h1; rfl
 ·simp at hs
theorem minmax_ok {c : Call} {bi : Builtin} {x y : Operand} {k k' : IntKind} {u v m : Int} (hI : Inv E P I0 H0 w0 nt β I H w S a) (ex : S.ev E x = .v (.int k u)) (ey : S.ev E y = .v (.int k' v)) (_hkk : k = k')
  (h : app (K (.v (.int k m)) S) H n = some r) (ho : o.op = .call c) (hc : c.callee = .builtin bi) (h0 : c.args[0]? = some x) (h1 : c.args[1]? = some y) (h2 : c.args[2]? = none)
  (hb : (bi = .max ∧ m = (bif decide (v > u) then v else u)) ∨ (bi = .min ∧ m = (bif decide (v < u) then v else u)))
  (hk : Kont E P I0 H0 w0 nt K n r a o.dst next) : o.wpIn (FW ro) 0 P a w next Q := by
 have hx := hI.evv ex
 generalize hxv : a.eval x = v1 at hx
 cases hx
 have hy := hI.evv ey
 generalize hyv : a.eval y = v2 at hy
 cases hy
 have hl := arr2 h0 h1 h2
 have hargs : (c.args.map a.eval) = #[.int k u, .int k' v] := by
  apply Array.ext'; simp [hl, hxv, hyv]
 have hex : (execOp a.eval o).run P w = .ok (.value (.int k m)) w := by
  rcases hb with ⟨rfl, rfl⟩ | ⟨rfl, rfl⟩
  ·simp [execOp, ho, resolve, hc, invoke, builtin, hargs, Builtin.max_, Builtin.max2, Bool.cond_decide]
  ·simp [execOp, ho, resolve, hc, invoke, builtin, hargs, Builtin.min_, Builtin.min2, Bool.cond_decide]
 exact wp_value hex (hk _ _ _ _ _ _ _ h hI (VR.int _ _))
theorem pick_ok {c x y : Operand} (hI : Inv E P I0 H0 w0 nt β I H w S a)
  (h : app (match S.ev E c with
  | .v (.bool b) => match S.ev E x, S.ev E y with
   | .v (.bool u), .v (.bool v) => K (.v (.bool (cond b u v))) S
   | sa, sb => cond b (K sa S) (K sb S)
  | _ => stk) H n = some r) (ho : o.op = .pick c x y)
  (hk : Kont E P I0 H0 w0 nt K n r a o.dst next) : o.wpIn (FW ro) 0 P a w next Q := by
 split at h
 ·rename_i b ec
  have hc := hI.evv ec
  generalize hcv : a.eval c = v1 at hc
  cases hc
  have hex : (execOp a.eval o).run P w = .ok (.value (if b then a.eval x else a.eval y)) w := by simp [execOp, ho, hcv, asBool]
  split at h
  ·rename_i u v eu ev
   have hu := hI.evv eu
   generalize hxv : a.eval x = v2 at hu
   cases hu
   have hv := hI.evv ev
   generalize hyv : a.eval y = v3 at hv
   cases hv
   rw [hxv, hyv] at hex
   cases b
   ·exact wp_value hex (hk _ _ _ _ _ _ _ h hI (VR.bool _))
   ·exact wp_value hex (hk _ _ _ _ _ _ _ h hI (VR.bool _))
  ·cases b
   ·exact wp_value hex (hk _ _ _ _ _ _ _ h hI (hI.ev y))
   ·exact wp_value hex (hk _ _ _ _ _ _ _ h hI (hI.ev x))
 ·exact (stk_some h).elim
theorem op_ok {esc : Nat → Bool} (hE : EnvOk P E) (hI : Inv E P I0 H0 w0 nt β I H w S a) (h : opD E P esc o S K H n = some r) (hk : Kont E P I0 H0 w0 nt K n r a o.dst next) : o.wpIn (FW ro) 0 P a w next Q := by
 replace h : app (opD E P esc o S K) H n = some r := h
 unfold opD at h
 simp only at h
 split at h
 case h_1 x ho => exact wp_value (v := a.eval x) (w' := w) (by simp [execOp, ho]) (hk _ _ _ _ _ _ _ h hI (hI.ev x))
 case h_2 x ho => exact wp_value (v := a.eval x) (w' := w) (by simp [execOp, ho]) (hk _ _ _ _ _ _ _ h hI (hI.ev x))
 case h_3 c x y ho => exact pick_ok hI h ho hk
 case h_4 t x ho => exact load_ok hI h ho hk
 case h_5 t x y ho => exact store_ok hI h ho hk
 case h_6 t ho =>
  split at h
  ·rename_i cs hz; exact alloc_ok hI hz h ho hk
  ·exact (stk_some h).elim
 case h_7 t x ho =>
  split at h
  ·rename_i hv ex; exact box_ok hI ex h ho hk
  ·exact (stk_some h).elim
 case h_8 t ps ho =>
  split at h
  ·rename_i fs z l hu hz hp
   split at h
   ·rename_i cs hall hf; exact build_st_ok hI hu hz hp hall hf h ho hk
   ·exact (stk_some h).elim
  ·rename_i m e z l hu hz hp
   split at h
   ·rename_i cs hie hf; exact build_ar_ok hI hu hz hp hie hf h ho hk
   ·exact (stk_some h).elim
  ·exact (stk_some h).elim
 case h_9 t m ps ho =>
  split at h
  ·rename_i e hu
   split at h
   ·rename_i z l hz hp
    split at h
    ·rename_i cs hf
     obtain ⟨hlens, h⟩ := gdLens_some h
     exact buildSlice_ok hI hu hz hp (fillP_D hlens rfl hf) h ho hk
    ·exact (stk_some h).elim
   ·exact (stk_some h).elim
  ·exact (stk_some h).elim
 case h_10 x ho => exact nilCheck_ok hI h ho hk
 case h_11 t x f ho =>
  split at h
  ·rename_i fs hu
   split at h
   ·rename_i fd hf; exact fieldAddr_ok hI hu hf h ho hk
   ·exact (stk_some h).elim
  ·exact (stk_some h).elim
 case h_12 t x f ho =>
  split at h
  ·rename_i fs cs hu ex
   split at h
   ·rename_i fd hf; exact field_ok hI hu hf ex h ho hk
   ·exact (stk_some h).elim
  ·exact (stk_some h).elim
 case h_13 t x i ho => exact idx_ok hI h ho hk
 case h_14 t x i ho => exact index_ok hI h ho hk
 case h_15 op t x y u ho => exact if_ok hI h ho hk
 case h_16 op t x ho => exact un_ok hI h ho hk
 case h_17 s d x ho =>
  split at h
  ·rename_i hb; exact str_ok hI hb h ho hk
  ·split at h
   ·rename_i hb; exact byt_ok hI hb h ho hk
   ·exact conv_ok hI h ho hk
 case h_18 t l c ho => exact mk_ok hI h ho hk
 case h_19 t x l hh m ho =>
  split at h
  ·exact (stk_some h).elim
  ·rename_i hne; exact slc_ok hI h ho (fun h1 h2 => by
    subst h2
    cases m with
    | none => exact h1 rfl
    | some m => exact hne m rfl rfl) hk
 case h_20 f x y ho =>
  split at h
  ·rename_i ea eb e1 e2
   have r1 := hI.evs e1
   have r2 := hI.evs e2
   have := VR.func (f := f) r1 r2
   exact wp_value (v := .func (.func f) (x.map a.eval) (y.map a.eval)) (w' := w) (by simp [execOp, ho, Instr.makeFunc]) (hk _ _ _ _ _ _ _ h hI (by
    have q1 : (x.toList.map a.eval).toArray = x.map a.eval := by apply Array.ext'; simp
    have q2 : (y.toList.map a.eval).toArray = y.map a.eval := by apply Array.ext'; simp
    rw [q1, q2] at this; exact this))
  ·exact (stk_some h).elim
 case h_21 x i ho =>
  split at h
  ·rename_i vs ex
   split at h
   ·rename_i v hv
    have hx := hI.evv ex
    generalize hxv : a.eval x = v1 at hx
    cases hx with
    | tup hr =>
     obtain ⟨u, u1, u2⟩ := hr.get hv
     exact wp_value (v := u) (w' := w) (by simp [execOp, ho, hxv, Instr.extract, u1]) (hk _ _ _ _ _ _ _ h hI u2)
   ·exact (stk_some h).elim
  ·exact (stk_some h).elim
 case h_22 c ho =>
  split at h
  ·rename_i hc
   split at h
   ·rename_i t x h0 h1; exact len_ok hI h ho hc h0 h1 hk
   ·exact (stk_some h).elim
  ·rename_i hc
   split at h
   ·rename_i t t' s x h0 h1 h2 h3
    split at h
    ·rename_i hb
     simp only [Bool.and_eq_true] at hb
     exact app_ok hI h ho hc h0 h1 (Nat.eq_of_beq_eq_true hb.1.1) h2 h3 (Nat.eq_of_beq_eq_true hb.1.2) (Nat.eq_of_beq_eq_true hb.2) hk
    ·split at h
     ·rename_i hb
      simp only [Bool.and_eq_true] at hb
      exact appS_ok hI h ho hc h0 h1 hb.1.1 h2 h3 (Nat.eq_of_beq_eq_true hb.1.2) (Nat.eq_of_beq_eq_true hb.2) hk
     ·split at h
      ·rename_i hb
       simp only [Bool.and_eq_true] at hb
       exact appZ_ok hI h ho hc h0 h1 hb.1.1 h2 h3 (Nat.eq_of_beq_eq_true hb.1.2) (Nat.eq_of_beq_eq_true hb.2) hk
      ·exact (stk_some h).elim
   ·exact (stk_some h).elim
  ·rename_i hc
   split at h
   ·rename_i x y h0 h1 h2
    split at h
    ·rename_i k u k' v ex ey
     obtain ⟨g, h⟩ := gd_some h
     exact minmax_ok hI ex ey (by simpa using g) h ho hc h0 h1 h2 (.inl ⟨rfl, rfl⟩) hk
    ·exact (stk_some h).elim
   ·exact (stk_some h).elim
  ·rename_i hc
   split at h
   ·rename_i x y h0 h1 h2
    split at h
    ·rename_i k u k' v ex ey
     obtain ⟨g, h⟩ := gd_some h
     exact minmax_ok hI ex ey (by simpa using g) h ho hc h0 h1 h2 (.inr ⟨rfl, rfl⟩) hk
    ·exact (stk_some h).elim
   ·exact (stk_some h).elim
  ·rename_i hc
   split at h
   ·rename_i x h0 h1
    split at h
    ·rename_i s ex
     obtain ⟨g, h⟩ := gd_some h
     exact usd_ok hI ex g h ho hc h0 h1 hk
    ·exact (stk_some h).elim
   ·exact (stk_some h).elim
  ·rename_i hc
   split at h
   ·rename_i t x h0 h1 h2
    split at h
    ·rename_i s hu ex
     obtain ⟨g, h⟩ := gd_some h
     exact cap_ok hI hu ex g h ho hc h0 h1 hk
    ·exact (stk_some h).elim
   ·exact (stk_some h).elim
  ·rename_i hc
   split at h
   ·rename_i t x y h0 h1 h2 h3
    split at h
    ·rename_i e p k hu ex ey
     split at h
     ·rename_i hb
      simp only [Bool.and_eq_true] at hb
      exact ust_ok hI hu ex ey (Nat.eq_of_beq_eq_true hb.1) (Nat.eq_of_beq_eq_true hb.2) h ho hc h0 h1 h2 h3 hk
     ·exact (stk_some h).elim
    ·exact (stk_some h).elim
   ·exact (stk_some h).elim
  ·rename_i f hc; exact call_ok hE hI h ho hc hk
  ·exact (stk_some h).elim
 case h_23 => exact spc_ok hI h hk
end
end Go.Proofs.YtbphjihgbenkdaaGreat.HQ
