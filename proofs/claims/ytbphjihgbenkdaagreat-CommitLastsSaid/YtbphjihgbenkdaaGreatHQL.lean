/- Lemmas for the row. Conditions: none. -/
import Derived.Test.YtbphjihgbenkdaaGreatHQK
import Derived.Lib.ConvBytes
namespace Go.Proofs.YtbphjihgbenkdaaGreat.HQ
set_option linter.unusedVariables false
set_option linter.unusedSectionVars false
set_option linter.unusedSimpArgs false
open Go
set_option linter.unusedSectionVars false
variable [Sites]
def FnOk (P : Program) (gl : Nat → Option Nat) (f : Nat) (g : List HV → M HV) : Prop :=
 (∃ fn c, P.funcs[f]? = some fn ∧ fn.body = some c ∧ (fn.name == "runtime.NumGoroutine") = false) ∧
 ∀ args H n r H', g args H n = some (r, H') → ∀ I w (args' : List Value), Rel I H w → (∀ q hb, gl q = some hb → I.j hb = some (q, 0)) → VRs I args args' →
  Calls P f args'.toArray w fun e w' => ∃ v I', e = .returned v ∧ VR I' r v ∧ Rel I' H' w' ∧ Step I H w I' H' w'
def DOk (P : Program) (gl : Nat → Option Nat) (D : HV → List HV → M HV) : Prop :=
 ∀ hv args H n r H', D hv args H n = some (r, H') → ∀ I w v (args' : List Value), Rel I H w → (∀ q hb, gl q = some hb → I.j hb = some (q, 0)) → VR I hv v → VRs I args args' →
  (∃ f, ∃ first cap : Array Value, v = .func (.func f) first cap ∧ (∃ fn c, P.funcs[f]? = some fn ∧ fn.body = some c ∧ (fn.name == "runtime.NumGoroutine") = false) ∧
   Calls P f (first ++ args'.toArray ++ cap) w fun e w' => ∃ v I', e = .returned v ∧ VR I' r v ∧ Rel I' H' w' ∧ Step I H w I' H' w') ∨
  (∃ l l', hv = .yld l ∧ v = .func (.yield l') #[] #[] ∧ ∃ rec, w.heap[l']? = some (.loop rec) ∧ args'.toArray.size = rec.params.size ∧
   RoundIn (FW none) 0 P l' rec.fn ((rec.params.zip args'.toArray).foldl (fun tmps (t, a) => tmps.setIfInBounds t a) rec.tmps) rec.assign rec.body w
    fun e w' => ∃ v I', e = .returned v ∧ VR I' r v ∧ Rel I' H' w' ∧ Step I H w I' H' w')
structure EnvOk (P : Program) (E : Env) : Prop where
 fn : ∀ f g, E.fn f = some g → FnOk P E.gl f g
 D : DOk P E.gl E.D
section
variable {E : Env} {P : Program} {I0 : Inj} {H0 : Heap} {w0 : World} {nt : Cx} {β : Nat → Option Nat} {I : Inj} {H : Heap} {w : World} {S : St} {a : Act}
variable {K : SV → St → M Leaf} {n : Nat} {r : Leaf × Heap} {next : Act → World → Prop} {Q : Exit → Act → World → Prop} {o : Oper} {ro : Option Nat}
theorem run_callFunc_body {f : Nat} (hb : ∃ fn c, P.funcs[f]? = some fn ∧ fn.body = some c ∧ (fn.name == "runtime.NumGoroutine") = false) (args : Array Value) (w : World) : (callFunc f args).run P w = .ok (.enter f args) w := by
 obtain ⟨fn, c, h1, h2, h3⟩ := hb
 have h4 : fn.name ≠ "runtime.NumGoroutine" := by simpa using h3
 simp [callFunc, h1, h2, h4]
theorem enter_ok {f : Nat} {args' : Array Value} {v : HV} {H' : Heap} (hI : Inv E P I0 H0 w0 nt β I H w S a) (hrun : (execOp a.eval o).run P w = .ok (.enter f args') w)
  (hc : Calls P f args' w fun e w' => ∃ u I', e = .returned u ∧ VR I' v u ∧ Rel I' H' w' ∧ Step I H w I' H' w')
  (hk : ∀ I' w' u, Inv E P I0 H0 w0 nt β I' H' w' S a → VR I' v u → next (a.put o.dst u) w') : o.wpIn (FW ro) 0 P a w next Q := by
 refine ⟨fun _ _ => trivial, ?_⟩
 rw [Oper.semAt_eq _ _ _ (not_defer hrun fun d hd => by cases hd), hrun]
 refine ⟨fun h => (by simp [FW] at h), callsIn_FW.2 ?_⟩
 refine hc.mono ?_
 rintro e w' ⟨u, I', rfl, h1, h2, h3⟩
 exact hk I' w' u (hI.heapput h3 h2) h1
theorem round_enter {l' : Nat} {rec : Loop} {tmps : Array Value} {v : HV} {H' : Heap} (hI : Inv E P I0 H0 w0 nt β I H w S a) (hrun : (execOp a.eval o).run P w = .ok (.round l' rec.fn tmps rec.assign rec.body) w)
  (hc : RoundIn (FW none) 0 P l' rec.fn tmps rec.assign rec.body w fun e w' => ∃ u I', e = .returned u ∧ VR I' v u ∧ Rel I' H' w' ∧ Step I H w I' H' w')
  (hk : ∀ I' w' u, Inv E P I0 H0 w0 nt β I' H' w' S a → VR I' v u → next (a.put o.dst u) w') : o.wpIn (FW ro) 0 P a w next Q := by
 refine ⟨fun _ _ => trivial, ?_⟩
 rw [Oper.semAt_eq _ _ _ (not_defer hrun fun d hd => by cases hd), hrun]
 refine ⟨fun h => (by simp [FW] at h), ?_⟩
 have hc' : RoundIn (FW ro) 0 P l' rec.fn tmps rec.assign rec.body w fun e w' => ∃ u I', e = .returned u ∧ VR I' v u ∧ Rel I' H' w' ∧ Step I H w I' H' w' := hc
 refine hc'.mono ?_
 rintro e w' ⟨u, I', rfl, h1, h2, h3⟩
 exact hk I' w' u (hI.heapput h3 h2) h1
theorem call_ok {c : Call} {x : Operand} (hE : EnvOk P E) (hI : Inv E P I0 H0 w0 nt β I H w S a) (h : callD P (tgt E S x) (S.evs E c.args.toList) o.type S K H n = some r) (ho : o.op = .call c) (hc : c.callee = .value x)
  (hk : Kont E P I0 H0 w0 nt K n r a o.dst next) : o.wpIn (FW ro) 0 P a w next Q := by
 replace h : app (callD P (tgt E S x) (S.evs E c.args.toList) o.type S K) H n = some r := h
 unfold callD at h
 split at h
 ·rename_i g args hg hargs
  obtain ⟨rv, H', hg1, h5⟩ := bnd_some h
  clear h
  replace h5 := Sh.d_some h5
  have hav := hI.evs hargs
  have hargs' : (c.args.map a.eval) = (c.args.toList.map a.eval).toArray := by apply Array.ext'; simp
  cases x with
  | func f =>
   obtain ⟨hb, hf⟩ := hE.fn f g hg
   refine enter_ok hI (f := f) (args' := (c.args.toList.map a.eval).toArray) ?_ (hf args H n rv H' hg1 I w _ hI.rel hI.gl hav) (fun I' w' u hI' hu => hk _ _ _ _ _ _ _ h5 hI' hu)
   simp [execOp, ho, resolve, hc, Act.eval, Deferred.ofValue, invoke, run_callFunc_body hb, hargs']
  | tmp t =>
   simp only [tgt] at hg
   split at hg
   ·rename_i hv ev
    cases hg
    have hvv : VR I hv (a.eval (.tmp t)) := hI.evv (x := .tmp t) ev
    rcases hE.D hv args H n rv H' hg1 I w _ _ hI.rel hI.gl hvv hav with ⟨f, first, cap, hfv, hb, hcalls⟩ | ⟨l, l', _, hfv, rec, hrec, hsz, hround⟩
    case inr =>
     refine round_enter hI ?_ hround (fun I' w' u hI' hu => hk _ _ _ _ _ _ _ h5 hI' hu)
     have hy := run_yield (P := P) (args := (c.args.toList.map a.eval).toArray) hrec hsz
     simp [execOp, ho, resolve, hc, hfv, Deferred.ofValue, invoke, hargs'] at hy ⊢
     exact hy
    refine enter_ok hI (f := f) (args' := first ++ (c.args.toList.map a.eval).toArray ++ cap) ?_ hcalls (fun I' w' u hI' hu => hk _ _ _ _ _ _ _ h5 hI' hu)
    simp [execOp, ho, resolve, hc, hfv, Deferred.ofValue, invoke, run_callFunc_body hb, hargs']
   ·cases hg
  | const v => cases hg
  | global g => cases hg
 ·exact (stk_some h).elim
theorem len_ok {c : Call} {t : TypeId} {x : Operand} (hI : Inv E P I0 H0 w0 nt β I H w S a) (h : lenD P t (S.ev E x) S K H n = some r) (ho : o.op = .call c) (hc : c.callee = .builtin .len) (h0 : c.argTypes[0]? = some t) (h1 : c.args[0]? = some x)
  (hk : Kont E P I0 H0 w0 nt K n r a o.dst next) : o.wpIn (FW ro) 0 P a w next Q := by
 replace h : app (lenD P t (S.ev E x) S K) H n = some r := h
 have hv := hI.ev x
 have run : ∀ {m : Nat}, (Builtin.len_ c.argTypes o.type (c.args.map a.eval)).run P w = .ok (goInt m) w → (execOp a.eval o).run P w = .ok (.value (.int .i64 m)) w := by
  intro m hm
  simp [execOp, ho, resolve, hc, invoke, builtin, hm, goInt]
 have hx : (c.args.map a.eval)[0]? = some (a.eval x) := by simp [h1]
 unfold lenD at h
 split at h
 ·rename_i e s hu ex
  rw [ex] at hv
  obtain ⟨p, l, cc, op⟩ := s
  have hl : ∃ q c', a.eval x = .slice q l c' := by
   have hv' : VR I (.sl ⟨p, l, cc, op⟩) (a.eval x) := hv
   generalize a.eval x = v1 at hv'
   cases hv' <;> exact ⟨_, _, rfl⟩
  obtain ⟨q, c', hq⟩ := hl
  exact wp_value (run (by simp [Builtin.len_, h0, hx, hq, run_underlying hu])) (hk _ _ _ _ _ _ _ h hI (VR.int _ _))
 ·rename_i s hu ex
  rw [ex] at hv
  have hv' : VR I (.str s) (a.eval x) := hv
  generalize hq : a.eval x = v1 at hv'
  cases hv'
  exact wp_value (run (by simp [Builtin.len_, h0, hx, hq, run_underlying hu])) (hk _ _ _ _ _ _ _ h hI (VR.int _ _))
 ·rename_i m e hv2 hu ex
  exact wp_value (run (by simp [Builtin.len_, h0, hx, run_underlying hu])) (hk _ _ _ _ _ _ _ h hI (VR.int _ _))
 ·rename_i m e d off hu ex
  exact wp_value (run (by simp [Builtin.len_, h0, hx, run_underlying hu])) (hk _ _ _ _ _ _ _ h hI (VR.int _ _))
 ·exact (stk_some h).elim
theorem app_ok {c : Call} {t t' : TypeId} {x y : Operand} (hI : Inv E P I0 H0 w0 nt β I H w S a) (h : appD P t (S.ev E x) (S.ev E y) S K H n = some r) (ho : o.op = .call c) (hc : c.callee = .builtin .append)
  (h0 : c.argTypes[0]? = some t) (h1 : c.argTypes[1]? = some t') (htt : t = t') (h2 : c.args[0]? = some x) (h3 : c.args[1]? = some y) (hs1 : c.argTypes.size = 2) (hs2 : c.args.size = 2)
  (hk : Kont E P I0 H0 w0 nt K n r a o.dst next) : o.wpIn (FW ro) 0 P a w next Q := by
 subst htt
 replace h : app (appD P t (S.ev E x) (S.ev E y) S K) H n = some r := h
 unfold appD at h
 split at h
 ·rename_i e s hu ex
  have hx := hI.evv ex
  split at h
  ·rename_i z hz
   split at h
   ·rename_i hzl
    obtain ⟨i, zv, hi, hzv, hzr, hz1⟩ := zeroCells_some hz
    have hzl : z.length = sizeT P e := Nat.eq_of_beq_eq_true hzl
    rw [sizeT_eq hi] at h hzl
    have hby : bytesT P e = i.bytes := by simp [bytesT, Program.bytesOf, hi]
    rw [hby] at h
    obtain ⟨m, vs, h, htail⟩ := tail_some hI h
    have hzs : zv.cells.size = i.size := by
     have := (hzr (⟨fun _ => none, fun _ => none⟩ : Inj)).length
     simp at this; omega
    obtain ⟨s', H', I', w', v, q1, q2, q3, q4⟩ := apd_ok (ty := o.type) hI hu (.inl ⟨_, hu⟩) hi hzv hzs hz1 hx htail h
    refine wp_value (v := v) (w' := w') ?_ (hk _ _ _ _ _ _ _ q1 q2 q3)
    have e1 : c.argTypes = #[t, t] := by
     apply Array.ext (by simpa using hs1)
     intro j hj1 hj2
     rcases j with _ | _ | j
     ·have := (Array.getElem?_eq_some_iff.1 h0).2; simpa using this
     ·have := (Array.getElem?_eq_some_iff.1 h1).2; simpa using this
     ·simp at hj2; omega
    have e2 : c.args.map a.eval = #[a.eval x, a.eval y] := by
     apply Array.ext (by simpa using hs2)
     intro j hj1 hj2
     rcases j with _ | _ | j
     ·have := (Array.getElem?_eq_some_iff.1 h2).2; simp [this]
     ·have := (Array.getElem?_eq_some_iff.1 h3).2; simp [this]
     ·simp at hj2; omega
    simp [execOp, ho, resolve, hc, invoke, builtin, e1, e2, q4]
   ·exact (stk_some h).elim
  ·exact (stk_some h).elim
 ·exact (stk_some h).elim
theorem bytesHV_vr {I : Inj} (b : ByteArray) : VRs I (bytesHV b) (b.data.toList.map fun x => Value.int .u8 (x.toNat : Int)) := by
 unfold bytesHV
 induction b.data.toList with
 | nil => exact .nil
 | cons x l ih => exact .cons (.int _ _) ih
theorem bytesDst_some {s d e : TypeId} (h : bytesDst P s d = some e) : P.underlying s = some .string ∧ P.underlying d = some (.slice e) ∧ P.underlying e = some (.int .u8) ∧ e = 5 := by
 unfold bytesDst at h
 split at h
 ·rename_i e' h1 h2
  split at h
  ·rename_i h3
   split at h
   ·rename_i h5; cases h; exact ⟨h1, h2, h3, Nat.eq_of_beq_eq_true h5⟩
   ·cases h
  ·cases h
 ·cases h
theorem Rel.refreeze {I : Inj} {H : Heap} {w w' : World} (h : Rel I H w) {b' : Nat} {c : Array Value} {el : TypeId} {fr fr' : Nat × Nat} (h0 : w.heap[b']? = some (.cells c el fr)) (hw : w'.heap[b']? = some (.cells c el fr')) (hfr : Thaw c.size el fr')
  (hn : ∀ x, x ≠ b' → w'.heap[x]? = w.heap[x]?) (hsz : w'.heap.size = w.heap.size) : Rel I H w' where
 bnd := h.bnd
 img := fun x b d e => by rw [hsz]; exact h.img x b d e
 obj := fun x b d cs ro e1 e2 => by
  obtain ⟨c1, el1, fr1, q1, q2, q3⟩ := h.obj x b d cs ro e1 e2
  by_cases hb : b = b'
  ·subst hb; rw [h0] at q1; cases q1; exact ⟨_, _, _, hw, q2, fun e => ⟨(q3 e).1, hfr⟩⟩
  ·exact ⟨_, _, _, by rw [hn _ hb]; exact q1, q2, q3⟩
 inj := h.inj
 sz := fun x s e => by
  obtain ⟨c1, el1, fr1, q1, q2⟩ := h.sz x s e
  by_cases hb : x = b'
  ·subst hb; rw [h0] at q1; cases q1; exact ⟨_, _, _, hw, q2⟩
  ·exact ⟨_, _, _, by rw [hn _ hb]; exact q1, q2⟩
 spc := fun x b d s e1 e2 => by
  obtain ⟨q0, o, q1, q2⟩ := h.spc x b d s e1 e2
  have hb : b ≠ b' := fun hh => by subst hh; rw [h0] at q1; cases q1; exact q2.not_cells
  exact ⟨q0, o, by rw [hn _ hb]; exact q1, q2⟩
 ty := fun _ _ _ _ _ e1 e2 => h.tyK (CK.one h0 rfl hw hn) e1 e2
 sinj := h.sinj
theorem Step.refreeze {I : Inj} {H : Heap} {w w' : World} {b b' : Nat} {cs : List HV} (hj : I.j b = some (b', 0)) (hg : H.get b = .cells cs false) {c : Array Value} {el : TypeId} {fr : Nat × Nat} (h0 : w.heap[b']? = some (.cells c el fr))
  (hn : ∀ x, x ≠ b' → w'.heap[x]? = w.heap[x]?) (hsz : w'.heap.size = w.heap.size) (hx : w'.os = w.os ∧ w'.output = w.output) : Step I H w I H w' :=
 ⟨hx, .refl I, Nat.le_refl _, by omega, fun x _ hnx _ => hn x (fun hh => by subst hh; exact hnx b 0 cs hj hg), fun b _ d h => .inr ⟨b, d, h⟩, fun b _ d cs h e => .inr ⟨b, d, cs, h, e⟩, fun b _ d s h e => .inr ⟨b, d, s, h, e⟩,
  fun x r h => ⟨r, by rw [hn x (fun hh => by subst hh; rw [h0] at h; cases h)]; exact h⟩⟩
theorem byt_ok {s d e : TypeId} {x : Operand} (hI : Inv E P I0 H0 w0 nt β I H w S a) (hb : bytesDst P s d = some e) (h : bytD e (S.ev E x) S K H n = some r) (ho : o.op = .convert s d x)
  (hk : Kont E P I0 H0 w0 nt K n r a o.dst next) : o.wpIn (FW ro) 0 P a w next Q := by
 obtain ⟨u1, u2, u3, he5⟩ := bytesDst_some hb
 replace h : app (bytD e (S.ev E x) S K) H n = some r := h
 unfold bytD at h
 split at h
 ·rename_i b ex
  replace h : app (K (.v (.sl ⟨some (H.n, 0), b.size, b.size, some 1⟩)) S) (H.pushT (some (e, none)) (.cells (bytesHV b) false)) n = some r := h
  have hv := hI.evv ex
  generalize hva : a.eval x = va at hv
  cases hv
  have hrun := Lib.run_convert_string_bytes (P := P) w s d e b u1 u2 u3
  have hge := grownCap_ge w b.size 0 e
  have hdrew : Inv E P I0 H0 w0 nt β I H w.drew S a := hI.heapput (Step.drew I H w) hI.rel.drew
  have hlen : (Lib.bytesCells w e b).size = grownCap w b.size 0 e := by
   have : b.data.size = b.size := rfl
   simp only [Lib.bytesCells, Array.size_append, Array.size_map, Array.size_replicate, this]; omega
  have hcell : ∀ (j : Nat) (y : HV), (bytesHV b)[j]? = some y → ∃ v, (Lib.bytesCells w e b)[j]? = some v ∧ VC I y v := by
   intro j y hj
   simp only [bytesHV, List.getElem?_map, Option.map_eq_some_iff] at hj
   obtain ⟨z, hz, rfl⟩ := hj
   have hlt := (List.getElem?_eq_some_iff.1 hz).1
   refine ⟨.int .u8 z.toNat, ?_, .int _ _, rfl⟩
   simp only [Lib.bytesCells]
   rw [Array.getElem?_append_left (by simpa using hlt), Array.getElem?_map, ← Array.getElem?_toList, hz]; rfl
  have hI1 := hdrew.heapput (Step.newT hdrew.rel (some (e, none)) (bytesHV b) (Lib.bytesCells w e b) e) (hdrew.rel.newT (some (e, none)) e (fun _ _ hh => by cases hh; exact ⟨rfl, fun k hk => by cases hk⟩) hcell)
  have hat : (w.drew.alloc (.cells (Lib.bytesCells w e b) e)).heap[w.heap.size]? = some (.cells (Lib.bytesCells w e b) e (0, 0)) := heap_alloc_eq w.drew _
  have hn : ∀ x, x ≠ w.heap.size → (Lib.bytesWorld w e b).heap[x]? = (w.drew.alloc (.cells (Lib.bytesCells w e b) e)).heap[x]? := by
   intro x hx
   simp [Lib.bytesWorld, World.freeze, Array.getElem?_modify, Ne.symm hx]
  have hsz : (Lib.bytesWorld w e b).heap.size = (w.drew.alloc (.cells (Lib.bytesCells w e b) e)).heap.size := by
   simp [Lib.bytesWorld, World.freeze]
  have hj : (I.up H.n w.drew.heap.size (Lib.bytesCells w e b).size).j H.n = some (w.heap.size, 0) := up_j I H.n _ _
  have hI2 := hI1.heapput (w' := Lib.bytesWorld w e b) (Step.refreeze (cs := bytesHV b) hj (by simp [Heap.pushT]) hat hn hsz ⟨by simp [Lib.bytesWorld, World.freeze], by simp [Lib.bytesWorld, World.freeze]⟩)
   (hI1.rel.refreeze hat (Lib.bytesWorld_at_new w e b) ⟨fun i hi => by simp only; omega, fun hh => absurd he5 hh⟩ hn hsz)
  refine wp_value (v := .slice (some ⟨w.heap.size, 0, none⟩) b.size (grownCap w b.size 0 e)) (w' := Lib.bytesWorld w e b) (by simp [execOp, ho, hva, hrun]) (hk _ _ _ _ _ _ _ h hI2 ?_)
  refine VR.sl (b := H.n) (b' := w.heap.size) (d := 0) (o := 0) hj hge (fun hh => by cases hh) (fun es hes => ?_)
  cases hes
  exact ⟨_, by simp only [Inj.up]; exact if_pos (show w.heap.size = w.drew.heap.size from rfl), by rw [hlen]; omega⟩
 ·exact (stk_some h).elim
theorem firstCells_str (b : ByteArray) (w : World) : (Builtin.firstCells 1 b.size (.string b)).run P w = .ok (b.data.toList.map fun x => Value.int .u8 (x.toNat : Int)).toArray w := by
 have : b.extract 0 b.size = b := by
  apply ByteArray.ext
  rw [ByteArray.data_extract]
  show b.data.extract 0 b.data.size = b.data
  simp
 simp only [Builtin.firstCells, this, Sem.run_pure, Result.ok.injEq, and_true]
 apply Array.ext'; simp
theorem apdU_ok {t t2 ty e : TypeId} {i : TypeInfo} {z : Value} (hI : Inv E P I0 H0 w0 nt β I H w S a) (ht : P.underlying t = some (.slice e)) (h2 : AppT P t2) (hi : P.info? e = some i) (hz : i.zero = some z) (hzs : z.cells.size = i.size) (hz1 : ∀ v ∈ z.cells.toList, v.oneCell' = true)
  {s : Sl} {sv : Value} (hs : VR I (.sl s) sv) {m : Nat} {vs : List HV} {xv : Value} {f : Sl → M Leaf}
  (hx : vs.length = m * i.size → ∃ news : List Value, VRs I vs news ∧ (∀ x ∈ news, x.oneCell' = true) ∧ (∀ w, (Builtin.lenOf xv).run P w = .ok m w) ∧
   ∀ w', (∀ A, w'.cell? A = w.cell? A) → (Builtin.firstCells i.size m xv).run P w' = .ok news.toArray w')
  (h : apdU e s i.size i.bytes m vs f H n = some r) :
  ∃ s' H' I' w' v, app (f s') H' n = some r ∧ Inv E P I0 H0 w0 nt β I' H' w' S a ∧ VR I' (.sl s') v ∧ (Builtin.append_ #[t, t2] ty #[sv, xv]).run P w = .ok v w' := by
 unfold apdU at h
 split at h
 ·split at h
  ·exact apdT_ok hI ht h2 hi hz hzs hz1 hs hx h
  ·exact apd_ok hI ht h2 hi hz hzs hz1 hs hx h
 ·exact apdT_ok hI ht h2 hi hz hzs hz1 hs hx h
theorem appS_ok {c : Call} {t t' : TypeId} {x y : Operand} (hI : Inv E P I0 H0 w0 nt β I H w S a) (h : appS P t (S.ev E x) (S.ev E y) S K H n = some r) (ho : o.op = .call c) (hc : c.callee = .builtin .append)
  (h0 : c.argTypes[0]? = some t) (h1 : c.argTypes[1]? = some t') (htt : bstr P t t' = true) (h2 : c.args[0]? = some x) (h3 : c.args[1]? = some y) (hs1 : c.argTypes.size = 2) (hs2 : c.args.size = 2)
  (hk : Kont E P I0 H0 w0 nt K n r a o.dst next) : o.wpIn (FW ro) 0 P a w next Q := by
 unfold bstr at htt
 split at htt
 case h_2 => cases htt
 rename_i e' hu' hst
 split at htt
 case h_2 => cases htt
 rename_i z hz
 simp only [Bool.and_eq_true] at htt
 have hzl := Nat.eq_of_beq_eq_true htt.1
 have hsz := Nat.eq_of_beq_eq_true htt.2
 replace h : app (appS P t (S.ev E x) (S.ev E y) S K) H n = some r := h
 unfold appS at h
 split at h
 ·rename_i e s b hu ex ey
  rw [hu'] at hu
  cases hu
  have hx := hI.evv ex
  have hy := hI.evv ey
  generalize hyv : a.eval y = v2 at hy
  cases hy
  obtain ⟨i, zv, hi, hzv, hzr, hz1⟩ := zeroCells_some hz
  have hby : bytesT P e' = i.bytes := by simp [bytesT, Program.bytesOf, hi]
  rw [sizeT_eq hi] at hzl hsz
  rw [hby] at h
  have hzs : zv.cells.size = i.size := by
   have := (hzr (⟨fun _ => none, fun _ => none⟩ : Inj)).length
   simp at this; omega
  have htail : (bytesHV b).length = b.size * i.size → ∃ news : List Value, VRs I (bytesHV b) news ∧ (∀ x ∈ news, x.oneCell' = true) ∧ (∀ w, (Builtin.lenOf (.string b)).run P w = .ok b.size w) ∧
    ∀ w', (∀ A, w'.cell? A = w.cell? A) → (Builtin.firstCells i.size b.size (.string b)).run P w' = .ok news.toArray w' := by
   intro _
   refine ⟨_, bytesHV_vr b, ?_, fun w => by simp [Builtin.lenOf], fun w' _ => by rw [hsz]; exact firstCells_str b w'⟩
   intro v hv
   obtain ⟨_, _, rfl⟩ := List.mem_map.1 hv
   rfl
  have h5 : apdU e' s i.size i.bytes b.size (bytesHV b) (fun s' => K (.v (.sl s')) S) H n = some r := by rw [hsz]; exact h
  obtain ⟨s', H', I', w', v, q1, q2, q3, q4⟩ := apdU_ok (ty := o.type) (t2 := t') hI hu' (.inr hst) hi hzv hzs hz1 hx htail h5
  refine wp_value (v := v) (w' := w') ?_ (hk _ _ _ _ _ _ _ q1 q2 q3)
  have e1 : c.argTypes = #[t, t'] := by
   apply Array.ext (by simpa using hs1)
   intro j hj1 hj2
   rcases j with _ | _ | j
   ·have := (Array.getElem?_eq_some_iff.1 h0).2; simpa using this
   ·have := (Array.getElem?_eq_some_iff.1 h1).2; simpa using this
   ·simp at hj2; omega
  have e2 : c.args.map a.eval = #[a.eval x, a.eval y] := by
   apply Array.ext (by simpa using hs2)
   intro j hj1 hj2
   rcases j with _ | _ | j
   ·have := (Array.getElem?_eq_some_iff.1 h2).2; simp [this]
   ·have := (Array.getElem?_eq_some_iff.1 h3).2; simp [this]
   ·simp at hj2; omega
  simp [execOp, ho, resolve, hc, invoke, builtin, e1, e2, hyv, q4]
 ·exact (stk_some h).elim
theorem repL_length (m : Nat) (l : List HV) : (repL m l).length = m * l.length := by
 induction m with
 | zero => unfold repL; split <;> simp
 | succ m ih =>
  unfold repL
  split
  ·simp
  ·simp only [List.length_append, ih]; rw [Nat.add_mul, Nat.one_mul, Nat.add_comm]
theorem repL_get (l : List HV) : ∀ (m i : Nat), i < m * l.length → (repL m l)[i]? = l[i % l.length]? := by
 intro m
 induction m with
 | zero => intro i hi; simp at hi
 | succ m ih =>
  intro i hi
  unfold repL
  split
  ·simp at hi; simp [hi, Nat.mod_one]
  ·by_cases h : i < l.length
   ·rw [List.getElem?_append_left h, Nat.mod_eq_of_lt h]
   ·rw [List.getElem?_append_right (by omega), ih _ (by rw [Nat.add_mul] at hi; omega)]
    congr 1
    rw [← Nat.mod_eq_sub_mod (by omega)]
theorem made_VRs {I : Inj} {z : List HV} {zv : Array Value} (h : VRs I z zv.toList) (_hl : z.length = zv.size) (h1 : ∀ v ∈ zv.toList, v.oneCell' = true) (m : Nat) :
  VRs I (repL m z) (madeCells zv (m * zv.size)).toList ∧ ∀ v ∈ (madeCells zv (m * zv.size)).toList, v.oneCell' = true := by
 have hget : ∀ i, i < m * zv.size → (madeCells zv (m * zv.size))[i]? = zv[i % zv.size]? := by
  intro i hi
  have h0 : 0 < zv.size := Nat.pos_of_ne_zero fun h0 => by rw [h0, Nat.mul_zero] at hi; exact absurd hi (Nat.not_lt_zero _)
  have hm := Nat.mod_lt i h0
  have e1 : (madeCells zv (m * zv.size))[i]? = some (zv[i % zv.size]!) := by
   unfold madeCells
   rw [Array.getElem?_map, Array.getElem?_range, if_pos hi]; rfl
  rw [e1, getElem!_pos zv _ hm, Array.getElem?_eq_getElem hm]
 constructor
 ·refine VRs.of_get (by rw [Array.length_toList, repL_length, size_madeCells, _hl]) fun i x v e1 e2 => ?_
  have hi : i < m * z.length := by rw [← repL_length]; exact (List.getElem?_eq_some_iff.1 e1).1
  rw [repL_get z m i hi] at e1
  rw [Array.getElem?_toList, hget i (by rw [← _hl]; exact hi)] at e2
  obtain ⟨u, u1, u2⟩ := h.get e1
  rw [Array.getElem?_toList, _hl, e2] at u1
  cases u1; exact u2
 ·intro v hv
  rw [Array.mem_toList_iff] at hv
  obtain ⟨j, hj, hjv⟩ := Array.getElem_of_mem hv
  have q2 : (madeCells zv (m * zv.size))[j]? = some v := by rw [Array.getElem?_eq_getElem hj, hjv]
  rw [size_madeCells] at hj
  rw [hget j hj] at q2
  exact h1 v (by rw [Array.mem_toList_iff]; exact Array.mem_of_getElem? q2)
theorem run_append_zero {w : World} {t t2 ty e : TypeId} {kk : IntKind} {i : TypeInfo} {z : Value} (ht : P.underlying t = some (.slice e)) (h2 : P.underlying t2 = some (.int kk)) (hi : P.info? e = some i) (hz : i.zero = some z) {m : Nat} (hm : 0 < m) (hr : m ≤ room)
  (hs : 0 < i.size) (hfit : m * i.bytes ≤ 281474976710656) :
  (Builtin.append_ #[t, t2] ty #[.slice none 0 0, .int .i64 m]).run P w = .ok (.slice (some ⟨w.heap.size, 0, none⟩) m (grownCap w m 0 e))
    (w.drew.alloc (.cells ((madeCells z.cells (m * z.cells.size)).toList ++ (Builtin.zeroCells z.cells (grownCap w m 0 e - m)).toList).toArray e)) := by
 have hroom : m ≤ 1000000000000000 := Nat.le_trans hr (by unfold room; omega)
 have h1 : IntKind.i64.wrap (m : Int) = m := by
  have e : (m : Int) % 2 ^ 64 = m := by omega
  simp only [IntKind.wrap, IntKind.signed, IntKind.bits, e]
  rw [if_neg (by simp; omega)]
 have h2' : ¬ ((m : Int) < 0) := by omega
 have h3 : ¬ (281474976710656 < (m : Int) * (i.bytes : Int)) := by
  have : (m : Int) * (i.bytes : Int) = ((m * i.bytes : Nat) : Int) := by simp
  omega
 have h5 : ¬ m = 0 := by omega
 have h6 : ¬ m * i.size = 0 := by have := Nat.mul_pos hm hs; omega
 have h7 : Builtin.nextslicecap m 0 = m := by unfold Builtin.nextslicecap; simp; omega
 have h8 : ¬ (281474976710656 < m * i.bytes) := by omega
 have h9 : ¬ (9223372036854775807 < (m : Int)) := by omega
 have h10 : Builtin.zeroCells z.cells m = madeCells z.cells (m * z.cells.size) := rfl
 simp [Builtin.append_, run_underlying ht, run_underlying h2, sizeOf, typeInfo, zeroValue, hi, hz, asInt, asIntOf, h1, h2', h3, h5, h6, h7, h8, h9, Question.forced, Builtin.firstCells, newRow, grownCap, h10]
 congr 2
 apply Array.ext'
 simp
theorem appZ_ok {c : Call} {t t' : TypeId} {x y : Operand} (hI : Inv E P I0 H0 w0 nt β I H w S a) (h : appZ P t (S.ev E x) (S.ev E y) S K H n = some r) (ho : o.op = .call c) (hc : c.callee = .builtin .append)
  (h0 : c.argTypes[0]? = some t) (h1 : c.argTypes[1]? = some t') (htt : zint P t' = true) (h2 : c.args[0]? = some x) (h3 : c.args[1]? = some y) (hs1 : c.argTypes.size = 2) (hs2 : c.args.size = 2)
  (hk : Kont E P I0 H0 w0 nt K n r a o.dst next) : o.wpIn (FW ro) 0 P a w next Q := by
 unfold zint at htt
 split at htt
 case h_2 => cases htt
 rename_i kk hint
 replace h : app (appZ P t (S.ev E x) (S.ev E y) S K) H n = some r := h
 unfold appZ at h
 split at h
 ·rename_i e s k hu ex ey
  have hx := hI.evv ex
  have hy := hI.evv ey
  split at h
  ·rename_i z hz
   split at h
   ·rename_i hzl
    simp only [Bool.and_eq_true] at hzl
    have hzl1 := Nat.eq_of_beq_eq_true hzl.1
    have hzl2 := Nat.le_of_ble_eq_true hzl.2
    obtain ⟨g1, hh⟩ := gd_some h
    obtain ⟨g2, hq⟩ := gd_some hh
    clear h hh
    simp only [Bool.and_eq_true, decide_eq_true_eq, Option.isNone_iff_eq_none] at g1 g2
    obtain ⟨sp, sl, sc, so⟩ := s
    simp only at g1
    obtain ⟨⟨⟨rfl, rfl⟩, rfl⟩, rfl⟩ := g1
    obtain ⟨⟨g3, g4⟩, g5⟩ := g2
    generalize hyv : a.eval y = v2 at hy
    cases hy
    have hxn := slnil hx
    obtain ⟨i, zv, hi, hzv, hzr, hz1⟩ := zeroCells_some hz
    have hby : bytesT P e = i.bytes := by simp [bytesT, Program.bytesOf, hi]
    rw [hby] at g4
    rw [sizeT_eq hi] at hzl1 hzl2 hq
    have hzs : zv.cells.size = i.size := by
     have := (hzr (⟨fun _ => none, fun _ => none⟩ : Inj)).length
     rw [Array.length_toList] at this; omega
    obtain ⟨m, rfl⟩ : ∃ m : Nat, k = m := ⟨k.toNat, by omega⟩
    simp only [Int.toNat_natCast] at g4 g5 hq
    have hrun := run_append_zero (P := P) (w := w) (ty := o.type) hu hint hi hzv (m := m) (by omega) g5 hzl2 (Nat.le_trans g4 (by unfold room; omega))
    have hge := grownCap_ge w m 0 e
    generalize hcap : grownCap w m 0 e = cap2 at *
    have hmade := made_VRs (I := I) (hzr I) (by omega) hz1 m
    have h : app (K (.v (.sl ⟨some (H.n, 0), m, m, some i.size⟩)) S) (H.push (.cells (repL m z) false)) n = some r := hq
    have hdrew : Inv E P I0 H0 w0 nt β I H w.drew S a := hI.heapput (Step.drew I H w) hI.rel.drew
    have hcell : ∀ (j : Nat) (x : HV), (repL m z)[j]? = some x → ∃ v, ((madeCells zv.cells (m * zv.cells.size)).toList ++ (Builtin.zeroCells zv.cells (cap2 - m)).toList).toArray[j]? = some v ∧ VC I x v := by
     intro j x hj
     obtain ⟨v, q1, q2⟩ := hmade.1.get hj
     refine ⟨v, ?_, q2, ?_⟩
     ·rw [List.getElem?_toArray, List.getElem?_append_left (List.getElem?_eq_some_iff.1 q1).1]; exact q1
     ·rw [← q2.sc]
      exact hmade.2 v (List.mem_of_getElem? q1)
    have hI2 := hdrew.heapput (Step.new hdrew.rel (repL m z) _ e) (hdrew.rel.new e hcell)
    have e1 : c.argTypes = #[t, t'] := by
     apply Array.ext (by simpa using hs1)
     intro j hj1 hj2
     rcases j with _ | _ | j
     ·have := (Array.getElem?_eq_some_iff.1 h0).2; simpa using this
     ·have := (Array.getElem?_eq_some_iff.1 h1).2; simpa using this
     ·simp at hj2; omega
    have e2 : c.args.map a.eval = #[a.eval x, a.eval y] := by
     apply Array.ext (by simpa using hs2)
     intro j hj1 hj2
     rcases j with _ | _ | j
     ·have := (Array.getElem?_eq_some_iff.1 h2).2; simp [this]
     ·have := (Array.getElem?_eq_some_iff.1 h3).2; simp [this]
     ·simp at hj2; omega
    refine wp_value (v := .slice (some ⟨w.heap.size, 0, none⟩) m cap2) (w' := _) (by simp [execOp, ho, resolve, hc, invoke, builtin, e1, e2, hyv, hxn, hrun]) (hk _ _ _ _ _ _ _ h hI2 ?_)
    refine VR.sl (b := H.n) (b' := w.heap.size) (d := 0) (o := 0) (up_j I H.n _ _) hge (fun hh => by cases hh) (fun es hes => ?_)
    cases hes
    refine ⟨_, by simp [Inj.up]; rfl, ?_⟩
    have e3 : (madeCells zv.cells (m * zv.cells.size)).size = m * i.size := by rw [size_madeCells, hzs]
    simp only [zeroCells_len, hzs]
    rw [size_madeCells]
    have e4 : cap2 * i.size = m * i.size + (cap2 - m) * i.size := by
     rw [← Nat.add_mul]; congr 1; omega
    omega
   ·exact (stk_some h).elim
  ·exact (stk_some h).elim
 ·exact (stk_some h).elim
theorem mk_ok {t : TypeId} {l c : Operand} (hI : Inv E P I0 H0 w0 nt β I H w S a) (h : mkSl P t (S.ev E l) (S.ev E c) S K H n = some r) (ho : o.op = .makeSlice t l c)
  (hk : Kont E P I0 H0 w0 nt K n r a o.dst next) : o.wpIn (FW ro) 0 P a w next Q := by
 replace h : app (mkSl P t (S.ev E l) (S.ev E c) S K) H n = some r := h
 unfold mkSl at h
 split at h
 ·rename_i e lv cv hu el ec
  have hl := hI.evv el
  generalize hlv : a.eval l = v1 at hl
  cases hl
  have hc := hI.evv ec
  generalize hcv : a.eval c = v2 at hc
  cases hc
  split at h
  ·rename_i z hz
   split at h
   ·rename_i hzb
    simp only [Bool.and_eq_true] at hzb
    obtain ⟨g4, g5⟩ := hzb
    have g4 : z.length = sizeT P e := Nat.eq_of_beq_eq_true g4
    have g5 : 1 ≤ bytesT P e := Nat.le_of_ble_eq_true g5
    obtain ⟨g1, h⟩ := gd_some h
    obtain ⟨g2, h⟩ := gd_some h
    obtain ⟨g3, h⟩ := gd_some h
    have g1 : 0 ≤ lv := by simpa using g1
    have g2 : lv ≤ cv := by simpa using g2
    obtain ⟨i, zv, hi, hzv, hzr, hz1⟩ := zeroCells_some hz
    have hby : bytesT P e = i.bytes := by simp [bytesT, Program.bytesOf, hi]
    rw [hby] at g3 g5
    rw [sizeT_eq hi] at g4
    have g3 : cv.toNat * i.bytes ≤ room := of_decide_eq_true g3
    have g6 : cv.toNat ≤ room := Nat.le_trans (Nat.le_mul_of_pos_right _ g5) g3
    replace h := nw_app h
    have hzs : zv.cells.size = i.size := by
     have := (hzr (⟨fun _ => none, fun _ => none⟩ : Inj)).length
     rw [Array.length_toList] at this; omega
    have hrun := run_make (P := P) w t e i zv hu hi hzv .i64 .i64 lv cv g1 g2 (by
     have h5 : cv = (cv.toNat : Int) := by omega
     have h6 : (i.bytes : Int) * cv = ((cv.toNat * i.bytes : Nat) : Int) := by
      rw [Int.natCast_mul, Int.mul_comm]; congr 1
     rw [h6]
     have h7 : cv.toNat * i.bytes ≤ 281474976710656 := Nat.le_trans g3 (by unfold room; omega)
     omega) (by unfold room at g6; omega)
    have hmade := made_VRs (I := I) (hzr I) (by omega) hz1 cv.toNat
    rw [hzs] at hmade
    refine wp_value (v := .slice (some ⟨w.heap.size, 0, none⟩) lv.toNat cv.toNat) (w' := _) (by simp [execOp, ho, hlv, hcv, hrun]) (hk _ _ _ _ _ _ _ h (hI.heapnew e hmade.1 hmade.2) ?_)
    exact VR.sl (b := H.n) (b' := w.heap.size) (d := 0) (o := 0) (up_j I H.n _ _) (Nat.le_refl _) (fun _ => rfl) (fun es hes => by cases hes)
   ·exact (stk_some h).elim
  ·exact (stk_some h).elim
 ·exact (stk_some h).elim
end
end Go.Proofs.YtbphjihgbenkdaaGreat.HQ
