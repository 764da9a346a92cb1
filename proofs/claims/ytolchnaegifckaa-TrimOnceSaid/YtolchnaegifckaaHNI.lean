/- Numbers, lengths, calls, slices: each is what the model does. Conditions: none (lemmas). -/
import Derived.Test.YtolchnaegifckaaHNH
namespace Go.Proofs.Ytolchnaegifckaa.HN
open Go
set_option linter.unusedSectionVars false
variable [Sites]
section
variable {E : Env} {P : Program} {I0 : Inj} {H0 : Heap} {w0 : World} {nt : Cx} {β : Nat → Option Nat} {I : Inj} {H : Heap} {w : World} {S : St} {a : Act}
variable {K : SV → St → M Leaf} {n : Nat} {r : Leaf × Heap} {next : Act → World → Prop} {Q : Exit → Act → World → Prop} {o : Oper} {ro : Option Nat}

theorem quick_run {α : Type} {s : Sem α} : ∀ {v : α}, quick P s = some v → ∀ w, s.run P w = .ok v w := by
  induction s with
  | pure x => intro v h w; simp [quick] at h; subst h; rfl
  | program k ih => intro v h w; simp only [quick] at h; exact ih _ h w
  | _ => intro v h w; simp [quick] at h
theorem toV_VR {I : Inj} {h : HV} {u v : Value} (e : toV h = some u) (hv : VR I h v) : v = u := by
  cases hv <;> simp [toV] at e <;> exact e
theorem backV_VR {I : Inj} {v : Value} {h : HV} (e : backV v = some h) : VR I h v := by
  cases v <;> simp [backV] at e <;> subst e <;> constructor
theorem toV_kind {h : HV} {u : Value} (e : toV h = some u) : (∀ l, u ≠ .agg l) ∧ u ≠ .nilIface := by
  cases h <;> simp [toV] at e <;> subst e <;> simp

theorem eqFs_run (d : Nat) : ∀ (fs : List Field) (i : Nat) (xs ys : List HV) (lx ly : List Value) (I : Inj) (e : Bool), VRs I xs (lx.drop i) → VRs I ys (ly.drop i) → eqFs P i fs xs ys = some e →
    ∀ w, (Op.eqFields (d + 1) lx.toArray ly.toArray fs).run P w = .ok e w
  | [], i, [], [], lx, ly, I, e, hx, hy, he, w => by simp [eqFs] at he; subst he; rfl
  | [], i, [], y :: ys, lx, ly, I, e, hx, hy, he, w => by simp [eqFs] at he
  | [], i, x :: xs, ys, lx, ly, I, e, hx, hy, he, w => by simp [eqFs] at he
  | f :: fs, i, [], ys, lx, ly, I, e, hx, hy, he, w => by simp [eqFs] at he
  | f :: fs, i, x :: xs, [], lx, ly, I, e, hx, hy, he, w => by simp [eqFs] at he
  | f :: fs, i, x :: xs, y :: ys, lx, ly, I, e, hx, hy, he, w => by
    obtain ⟨x', hx0, hxr, hx'⟩ : ∃ x', lx[i]? = some x' ∧ VRs I xs (lx.drop (i + 1)) ∧ VR I x x' := by
      generalize hg : lx.drop i = g at hx
      cases hx with
      | cons p q =>
        rename_i v vs
        refine ⟨v, ?_, ?_, p⟩
        · have := congrArg (·[0]?) hg; simpa using this
        · have := congrArg (List.drop 1) hg; simp at this; rw [this]; exact q
    obtain ⟨y', hy0, hyr, hy'⟩ : ∃ y', ly[i]? = some y' ∧ VRs I ys (ly.drop (i + 1)) ∧ VR I y y' := by
      generalize hg : ly.drop i = g at hy
      cases hy with
      | cons p q =>
        rename_i v vs
        refine ⟨v, ?_, ?_, p⟩
        · have := congrArg (·[0]?) hg; simpa using this
        · have := congrArg (List.drop 1) hg; simp at this; rw [this]; exact q
    have key : ∀ {dd : TypeDesc} (hu : P.underlying f.type = some dd) (hd : (match dd with | .struct _ | .array _ _ => true | _ => false) = false) (hoff : f.offset = i) (hnm : f.name ≠ "_") (t b : Bool) (ht : eqFs P (i + 1) fs xs ys = some t)
        (hq : ∀ w, (Op.equalIn (d + 1) f.type x' y').run P w = .ok b w) (hb : e = cond b t false), (Op.eqFields (d + 1) lx.toArray ly.toArray (f :: fs)).run P w = .ok e w := by
      intro dd hu hd hoff hnm t b ht hq hb
      have hag : ∀ w, (isAgg f.type).run P w = .ok false w := by
        intro w
        simp only [isAgg, Sem.run_bind, run_underlying hu, Result.andThen_ok]
        cases dd <;> first | rfl | cases hd
      have ih := eqFs_run d fs (i + 1) xs ys lx ly I t hxr hyr ht w
      simp only [Op.eqFields, if_pos hnm, Sem.run_bind, part, hag, Result.andThen_ok, Bool.false_eq_true, if_false, hoff, List.getElem?_toArray, hx0, hy0, Sem.run_pure, hq, Sem.run_ite]
      cases b
      · simp [hb]
      · simp [hb, ih]
    simp only [eqFs] at he
    split at he
    · rename_i _ _ _ t hoff hnm ht
      have hoff : f.offset = i := Nat.eq_of_beq_eq_true hoff
      have hnm : f.name ≠ "_" := by simpa using hnm
      split at he
      · rename_i k0 k1 av k2 bv hu
        split at he
        · rename_i hk
          cases he; cases hx'; cases hy'
          have hk : k1 = k2 := by simpa using hk
          subst hk
          exact key hu rfl hoff hnm t (av == bv) ht (fun w => run_equalIn_int w d f.type k1 k0 av bv hu) rfl
        · cases he
      · rename_i av bv hu
        cases he; cases hx'; cases hy'
        exact key hu rfl hoff hnm t (av == bv) ht (fun w => run_equalIn_bool' w d f.type av bv hu) rfl
      · rename_i av bv hu
        cases he; cases hx'; cases hy'
        exact key hu rfl hoff hnm t _ ht (fun w => run_equalIn_string w d f.type av bv hu) rfl
      · cases he
    · cases he

theorem eqGuard_sc {va vb : HV} {ua ub : Value} {op : BinOp} {t : TypeId} {x y : Operand} (ea : toV va = some ua) (eb : toV vb = some ub) (w : World) : (eqGuard op t x y ua ub).run P w = .ok () w := by
  cases va <;> simp [toV] at ea <;> subst ea <;> cases vb <;> simp [toV] at eb <;> subst eb <;> cases op <;> rfl
theorem run_eq_ptr {t el : TypeId} (hu : P.underlying t = some (.pointer el)) (p : Option Addr) (d : Nat) (w : World) : (Op.equalIn (d + 1) t (.pointer p) (.pointer none)).run P w = .ok p.isNone w := by
  cases p <;> simp [Op.equalIn, run_underlying hu]
theorem run_eq_sl {t el : TypeId} (hu : P.underlying t = some (.slice el)) (p : Option Addr) (l c l2 c2 : Nat) (d : Nat) (w : World) : (Op.equalIn (d + 1) t (.slice p l c) (.slice none l2 c2)).run P w = .ok p.isNone w := by
  cases p <;> simp [Op.equalIn, run_underlying hu]
theorem run_cmp {t : TypeId} {x y : Operand} {u v : Value} {b : Bool} (hg : ∀ w, (Op.equalIn 10000 t u v).run P w = .ok b w) (hb1 : ∀ w, (binOp .eql t u v).run P w = ((Op.equalIn 10000 t u v).run P w).andThen fun b w' => .ok (.bool b) w')
    (hb2 : ∀ w, (binOp .neq t u v).run P w = ((Op.equalIn 10000 t u v).run P w).andThen fun b w' => .ok (.bool (!b)) w') (h1 : ∀ w, (eqGuard .eql t x y u v).run P w = .ok () w) (h2 : ∀ w, (eqGuard .neq t x y u v).run P w = .ok () w) (w : World) :
    ((do eqGuard .eql t x y u v; binOp .eql t u v : Sem Value).run P w = .ok (.bool b) w) ∧ ((do eqGuard .neq t x y u v; binOp .neq t u v : Sem Value).run P w = .ok (.bool (!b)) w) := by
  simp only [Sem.run_bind, h1, h2, hb1, hb2, hg, Result.andThen_ok, and_self]
theorem cmp_ptr {t el : TypeId} {x y : Operand} (hu : P.underlying t = some (.pointer el)) (p : Option Addr) (w : World) :
    ((do eqGuard .eql t x y (.pointer p) (.pointer none); binOp .eql t (.pointer p) (.pointer none) : Sem Value).run P w = .ok (.bool p.isNone) w) ∧
    ((do eqGuard .neq t x y (.pointer p) (.pointer none); binOp .neq t (.pointer p) (.pointer none) : Sem Value).run P w = .ok (.bool (!p.isNone)) w) :=
  run_cmp (fun w => run_eq_ptr hu p 9999 w) (fun w => by rw [show binOp .eql t (.pointer p) (.pointer none) = (do pure (.bool (← Op.equalIn 10000 t (.pointer p) (.pointer none)))) from rfl]; simp only [Sem.run_bind, Sem.run_pure])
    (fun w => by rw [show binOp .neq t (.pointer p) (.pointer none) = (do pure (.bool (!(← Op.equalIn 10000 t (.pointer p) (.pointer none))))) from rfl]; simp only [Sem.run_bind, Sem.run_pure]) (fun _ => rfl) (fun _ => rfl) w
theorem cmp_sl {t el : TypeId} {x y : Operand} (hu : P.underlying t = some (.slice el)) (p : Option Addr) (l c l2 c2 : Nat) (w : World) :
    ((do eqGuard .eql t x y (.slice p l c) (.slice none l2 c2); binOp .eql t (.slice p l c) (.slice none l2 c2) : Sem Value).run P w = .ok (.bool p.isNone) w) ∧
    ((do eqGuard .neq t x y (.slice p l c) (.slice none l2 c2); binOp .neq t (.slice p l c) (.slice none l2 c2) : Sem Value).run P w = .ok (.bool (!p.isNone)) w) :=
  run_cmp (fun w => run_eq_sl hu p l c l2 c2 9999 w) (fun w => by rw [show binOp .eql t (.slice p l c) (.slice none l2 c2) = (do pure (.bool (← Op.equalIn 10000 t (.slice p l c) (.slice none l2 c2)))) from rfl]; simp only [Sem.run_bind, Sem.run_pure])
    (fun w => by rw [show binOp .neq t (.slice p l c) (.slice none l2 c2) = (do pure (.bool (!(← Op.equalIn 10000 t (.slice p l c) (.slice none l2 c2))))) from rfl]; simp only [Sem.run_bind, Sem.run_pure]) (fun _ => rfl) (fun _ => rfl) w
theorem eqSt_run {t : TypeId} {xs ys : List HV} {lx ly : List Value} {e : Bool} {x y : Operand} (he : eqSt P t xs ys = some e) (hx1 : VRs I xs lx) (hy1 : VRs I ys ly) (w : World) :
    ((do eqGuard .eql t x y (.agg lx.toArray) (.agg ly.toArray); binOp .eql t (.agg lx.toArray) (.agg ly.toArray) : Sem Value).run P w = .ok (.bool e) w) ∧
    ((do eqGuard .neq t x y (.agg lx.toArray) (.agg ly.toArray); binOp .neq t (.agg lx.toArray) (.agg ly.toArray) : Sem Value).run P w = .ok (.bool (!e)) w) := by
  unfold eqSt at he
  split at he
  · rename_i fs hu
    split at he
    · rename_i hst hgu
      have hfo : P.underlying t = some (.struct (P.fieldsOf t)) := by simp [Program.fieldsOf, hu]
      have hfe : P.fieldsOf t = fs := by simp [Program.fieldsOf, hu]
      refine run_cmp (fun w => ?_) (fun w => run_eql_struct w t _ _) (fun w => run_neq_struct w t _ _) (fun w => run_eqGuard_agg w .eql t x y _ _ hgu) (fun w => run_eqGuard_agg w .neq t x y _ _ hgu) w
      have hrun := run_equalIn_struct (P := P) w 9999 t lx.toArray ly.toArray hfo hst
      rw [hfe, eqFs_run 9998 fs.toList 0 xs ys lx ly I e (by simpa using hx1) (by simpa using hy1) he w] at hrun
      exact hrun
    · cases he
  · cases he
theorem isPt_some {t : TypeId} (hp : isPt P t = true) : ∃ el, P.underlying t = some (.pointer el) := by
  unfold isPt at hp; split at hp
  · exact ⟨_, by assumption⟩
  · cases hp
theorem isSl_some {t : TypeId} (hp : isSl P t = true) : ∃ el, P.underlying t = some (.slice el) := by
  unfold isSl at hp; split at hp
  · exact ⟨_, by assumption⟩
  · cases hp
theorem exec_bin {op : BinOp} {t u : TypeId} {x y : Operand} (ho : o.op = .binOp op t x y u) {v : Value} {w' : World} (h : (do eqGuard op t x y (a.eval x) (a.eval y); binOp op t (a.eval x) (a.eval y) : Sem Value).run P w = .ok v w') :
    (execOp a.eval o).run P w = .ok (.value v) w' := by
  unfold execOp; rw [ho]
  simp only [Sem.run_bind] at h ⊢
  rw [h]; rfl
theorem ptr_none {I : Inj} {p : Option (Nat × Nat)} {v : Value} (h : VR I (.ptr p) v) : ∃ q, v = .pointer q ∧ q.isNone = p.isNone := by
  cases h <;> exact ⟨_, rfl, rfl⟩
theorem sl_none {I : Inj} {s : Sl} {v : Value} (h : VR I (.sl s) v) : ∃ q l c, v = .slice q l c ∧ q.isNone = s.p.isNone := by
  cases h <;> exact ⟨_, _, _, rfl, rfl⟩
theorem slnil {I : Inj} {v : Value} (h : VR I (.sl ⟨none, 0, 0, none⟩) v) : v = .slice none 0 0 := by cases h; rfl
theorem ptrnil {I : Inj} {v : Value} (h : VR I (.ptr none) v) : v = .pointer none := by cases h; rfl

theorem bin_ok {op : BinOp} {t u : TypeId} {x y : Operand} (hI : Inv E P I0 H0 w0 nt β I H w S a) (h : binD P op t (S.ev E x) (S.ev E y) S K H n = some r) (ho : o.op = .binOp op t x y u)
    (hk : Kont E P I0 H0 w0 nt K n r a o.dst next) : o.wpIn (FW ro) 0 P a w next Q := by
  replace h : app (binD P op t (S.ev E x) (S.ev E y) S K) H n = some r := h
  unfold binD at h
  split at h
  · rename_i _ _ va vb ex ey
    have hx := hI.evv ex
    have hy := hI.evv ey
    split at h
    · rename_i ua ub ea eb
      have hx2 := toV_VR ea hx
      have hy2 := toV_VR eb hy
      split at h
      · rename_i rv hq
        split at h
        · rename_i hh hb
          refine wp_value (v := rv) (w' := w) (exec_bin ho ?_) (hk _ _ _ _ _ _ _ h hI (backV_VR hb))
          rw [hx2, hy2]
          simp only [Sem.run_bind, eqGuard_sc ea eb, Result.andThen_ok, quick_run hq]
        · exact (stk_some h).elim
      · exact (stk_some h).elim
    · split at h
      · split at h
        · rename_i hp
          obtain ⟨el, hu⟩ := isPt_some hp
          obtain ⟨q, hq, hn⟩ := ptr_none hx
          refine wp_value (w' := w) (exec_bin ho ?_) (hk _ _ _ _ _ _ _ h hI (VR.bool _))
          rw [hq, ptrnil hy, ← hn]; exact (cmp_ptr hu q w).1
        · exact (stk_some h).elim
      · split at h
        · rename_i hp
          obtain ⟨el, hu⟩ := isPt_some hp
          obtain ⟨q, hq, hn⟩ := ptr_none hx
          refine wp_value (w' := w) (exec_bin ho ?_) (hk _ _ _ _ _ _ _ h hI (VR.bool _))
          rw [hq, ptrnil hy, ← hn]; exact (cmp_ptr hu q w).2
        · exact (stk_some h).elim
      · split at h
        · rename_i hp
          obtain ⟨el, hu⟩ := isSl_some hp
          obtain ⟨q, l, c, hq, hn⟩ := sl_none hx
          refine wp_value (w' := w) (exec_bin ho ?_) (hk _ _ _ _ _ _ _ h hI (VR.bool _))
          rw [hq, slnil hy, ← hn]; exact (cmp_sl hu q l c 0 0 w).1
        · exact (stk_some h).elim
      · split at h
        · rename_i hp
          obtain ⟨el, hu⟩ := isSl_some hp
          obtain ⟨q, l, c, hq, hn⟩ := sl_none hx
          refine wp_value (w' := w) (exec_bin ho ?_) (hk _ _ _ _ _ _ _ h hI (VR.bool _))
          rw [hq, slnil hy, ← hn]; exact (cmp_sl hu q l c 0 0 w).2
        · exact (stk_some h).elim
      · split at h
        · rename_i e he
          obtain ⟨lx, hlx, hx1, _⟩ := VRs_toList_agg hx
          obtain ⟨ly, hly, hy1, _⟩ := VRs_toList_agg hy
          refine wp_value (w' := w) (exec_bin ho ?_) (hk _ _ _ _ _ _ _ h hI (VR.bool _))
          rw [hlx, hly]; exact (eqSt_run he hx1 hy1 w).1
        · exact (stk_some h).elim
      · split at h
        · rename_i e he
          obtain ⟨lx, hlx, hx1, _⟩ := VRs_toList_agg hx
          obtain ⟨ly, hly, hy1, _⟩ := VRs_toList_agg hy
          refine wp_value (w' := w) (exec_bin ho ?_) (hk _ _ _ _ _ _ _ h hI (VR.bool _))
          rw [hlx, hly]; exact (eqSt_run he hx1 hy1 w).2
        · exact (stk_some h).elim
      · exact (stk_some h).elim
  · exact (stk_some h).elim

theorem un_ok {op : UnOp} {t : TypeId} {x : Operand} (hI : Inv E P I0 H0 w0 nt β I H w S a) (h : unD P op (S.ev E x) S K H n = some r) (ho : o.op = .unOp op t x)
    (hk : Kont E P I0 H0 w0 nt K n r a o.dst next) : o.wpIn (FW ro) 0 P a w next Q := by
  replace h : app (unD P op (S.ev E x) S K) H n = some r := h
  unfold unD at h
  split at h
  · rename_i _ va ex
    have hx := hI.evv ex
    split at h
    · rename_i ua ea
      have hx2 := toV_VR ea hx
      split at h
      · rename_i rv hq
        split at h
        · rename_i hh hb
          exact wp_value (v := rv) (w' := w) (by simp [execOp, ho, hx2, quick_run hq]) (hk _ _ _ _ _ _ _ h hI (backV_VR hb))
        · exact (stk_some h).elim
      · exact (stk_some h).elim
    · exact (stk_some h).elim
  · exact (stk_some h).elim

theorem conv_ok {s d : TypeId} {x : Operand} (hI : Inv E P I0 H0 w0 nt β I H w S a) (h : convD P s d (S.ev E x) S K H n = some r) (ho : o.op = .convert s d x)
    (hk : Kont E P I0 H0 w0 nt K n r a o.dst next) : o.wpIn (FW ro) 0 P a w next Q := by
  replace h : app (convD P s d (S.ev E x) S K) H n = some r := h
  unfold convD at h
  split at h
  · rename_i _ va ex
    have hx := hI.evv ex
    generalize hva : a.eval x = v1 at hx
    split at h
    · rename_i k1 k2 k3 m hu1 hu2
      cases hx
      exact wp_value (v := .int k2 (k2.wrap m)) (w' := w) (by simp [execOp, ho, hva, convert, run_underlying hu1, run_underlying hu2, Conv.intToInt]) (hk _ _ _ _ _ _ _ h hI (VR.int _ _))
    · rename_i st hu1 hu2
      cases hx
      exact wp_value (v := .string st) (w' := w) (by simp [execOp, ho, hva, convert, run_underlying hu1, run_underlying hu2]) (hk _ _ _ _ _ _ _ h hI (VR.str _))
    · exact (stk_some h).elim
  · exact (stk_some h).elim
end
end Go.Proofs.Ytolchnaegifckaa.HN
