/- Lemmas for the row. Conditions: none. -/
import Derived.Test.YtbphjihgbenkdaaGreatHQZ
import Derived.ProofKit
namespace Go.Proofs.YtbphjihgbenkdaaGreat.HQ
set_option linter.unusedVariables false
set_option linter.unusedSectionVars false
set_option linter.unusedSimpArgs false
open Go Go.ChangeShapes Go.WideShapes Go.ChangeAt Go.RowKit
set_option linter.unusedSectionVars false
variable [Sites]
def ArgTy (P : Program) (H : Heap) (n : Nat) (t : TypeId) (h : HV) : Prop := match agOf P t with
 | some true => ∃ cs, h = .agg cs ∧ Ty P H n t cs
 | _ => Ty P H n t [h]
def ArgsTy (P : Program) (H : Heap) (n : Nat) : List TypeId → List HV → Prop
 | [], [] => True
 | t :: ts, h :: hs => ArgTy P H n t h ∧ ArgsTy P H n ts hs
 | _, _ => False
theorem ArgTy.mono {P : Program} {I I' : Inj} {H H' : Heap} (h : Ext I H I' H') {n : Nat} {t : TypeId} {x : HV} (a : ArgTy P H n t x) : ArgTy P H' n t x := by
 unfold ArgTy at a ⊢
 split at a
 ·obtain ⟨cs, h1, h2⟩ := a; exact ⟨cs, h1, h2.mono h⟩
 ·exact a.mono h
section
variable {P : Program} {w : World} {Hd : Type} {enc : TypeId × Value → Hd}
theorem Ty.one {H : Heap} {n : Nat} {t : TypeId} {cs : List HV} (h : Ty P H n t cs) (ha : agOf P t ≠ some true) : ∃ x, cs = [x] := by
 cases n with
 | zero => exact h.elim
 | succ n =>
  unfold Ty at h
  split at h
  ·obtain ⟨b, rfl⟩ := h; exact ⟨_, rfl⟩
  ·obtain ⟨b, rfl, _⟩ := h; exact ⟨_, rfl⟩
  ·obtain ⟨b, rfl, _⟩ := h; exact ⟨_, rfl⟩
  ·rcases h with rfl | ⟨_, _, _, _, rfl, _⟩ <;> exact ⟨_, rfl⟩
  ·rename_i fs e; exact absurd (by simp [agOf, e]) ha
  ·rename_i m el e; exact absurd (by simp [agOf, e]) ha
  ·exact h.elim
theorem open_arg {n : Nat} {t : TypeId} {v : Value} {d : DataW Hd} {ps : List MemPlace} {base : Nat} {r : Reach} (hf : flatT P n t = true) (hv : Value.okWide P w r base t v) (h : DataW.Trod enc P w 0 (fun _ => true) true t v d ps)
  {I : Inj} {H : Heap} (hg : Still w I H) : ∃ I' H' x, Still w I' H' ∧ Ext I H I' H' ∧ VR I' x v ∧ ArgTy P H' n t x := by
 obtain ⟨fuel, hfu⟩ := h
 obtain ⟨I', H', hs, g, e, hr, hsc, ht⟩ := opens_trod n hf hfu I H hg
 have hone : ∀ v' ∈ v.cells.toList, v'.oneCell' = true := by
  intro v' hv'
  obtain ⟨i, hi, rfl⟩ := List.getElem_of_mem hv'
  have hl := hr.length
  obtain ⟨u, u1, u2⟩ := hr.get (List.getElem?_eq_getElem (i := i) (by omega))
  rw [List.getElem?_eq_getElem hi] at u1
  cases u1
  rw [u2.sc]; exact hsc _ (List.getElem_mem _)
 by_cases ha : agOf P t = some true
 ·have hagg : ∃ cs, v = .agg cs := by
   unfold agOf at ha
   unfold Value.okWide at hv
   split at ha
   ·rename_i fs e; rw [e] at hv; obtain ⟨cs, rfl, _⟩ := hv; exact ⟨cs, rfl⟩
   ·rename_i m el e; rw [e] at hv; obtain ⟨cs, rfl, _⟩ := hv; exact ⟨cs, rfl⟩
   ·cases ha
   ·cases ha
  obtain ⟨cs, rfl⟩ := hagg
  refine ⟨I', H', .agg hs, g, e, ?_, ?_⟩
  ·have := VR.agg hr hone
   simpa [Value.cells] using this
  ·unfold ArgTy; rw [ha]; exact ⟨hs, rfl, ht⟩
 ·obtain ⟨x, rfl⟩ := ht.one ha
  have hv1 : v.cells.toList = [v] := by
   cases v with
   | agg cs =>
    exfalso
    obtain ⟨m, rfl⟩ : ∃ m, n = m + 1 := by
     cases n with
     | zero => cases hf
     | succ m => exact ⟨m, rfl⟩
    unfold flatT at hf
    unfold Value.okWide at hv
    unfold agOf at ha
    split at hf <;> rename_i e <;> simp [e, Cell.okWide, Cell.ok] at hv ha
   | _ => rfl
  rw [hv1] at hr
  refine ⟨I', H', x, g, e, ?_, ?_⟩
  ·cases hr with | cons p _ => exact p
  ·unfold ArgTy
   split
   ·rename_i h; exact absurd h ha
   ·exact ht
theorem open_args {n : Nat} {base : Nat} {r : Reach} : ∀ {ts : List TypeId} {vs : List Value} {ds : List (DataW Hd)} {ps : List MemPlace}, DataW.TrodAll enc P w 0 (fun _ => true) true ts vs ds ps → ts.all (flatT P n) = true →
  (∀ (j : Nat) (t : TypeId) (v : Value), ts[j]? = some t → vs[j]? = some v → Value.okWide P w r base t v) → ∀ {I : Inj} {H : Heap}, Still w I H → ∃ I' H' xs, Still w I' H' ∧ Ext I H I' H' ∧ VRs I' xs vs ∧ ArgsTy P H' n ts xs
 | [], [], [], _, _, _, _, I, H, hg => ⟨I, H, [], hg, .refl I H, .nil, trivial⟩
 | t :: ts, v :: vs, d :: ds, ps, h, hf, hv, I, H, hg => by
  obtain ⟨p, q, h1, h2, _⟩ := h
  simp only [List.all_cons, Bool.and_eq_true] at hf
  obtain ⟨I1, H1, x, g1, e1, r1, t1⟩ := open_arg hf.1 (hv 0 t v rfl rfl) h1 hg
  obtain ⟨I2, H2, xs, g2, e2, r2, t2⟩ := open_args h2 hf.2 (fun j t v a b => hv (j + 1) t v (by simpa using a) (by simpa using b)) g1
  exact ⟨I2, H2, x :: xs, g2, e1.trans e2, .cons (r1.mono e2.le) r2, t1.mono e2, t2⟩
theorem trodAll_stays {W' : World} (hl : laidOutB P = true) {sp : Nat → Bool} : ∀ {ts : List TypeId} {vs : List Value} {ds : List (DataW Hd)} {ps : List MemPlace}, ts.all (fun t => P.readableRec t && decide (t < P.types.size)) = true →
  DataW.TrodAll enc P w 0 (fun _ => true) true ts vs ds ps → (∀ p ∈ ps, w.sameAt W' p) → (∀ p ∈ ps, sp p.block = true) → DataW.TrodAll enc P W' 0 sp true ts vs ds ps
 | [], [], [], _, _, h, _, _ => h
 | t :: ts, v :: vs, d :: ds, ps, hr, h, hs, hsp => by
  obtain ⟨p, q, h1, h2, rfl⟩ := h
  simp only [List.all_cons, Bool.and_eq_true, decide_eq_true_eq] at hr
  exact ⟨p, q, WideElems.Trod_stays hl hr.1.1 hr.1.2 h1 (fun x hx => hs x (List.mem_append_left _ hx)) (fun x hx => hsp x (List.mem_append_left _ hx)),
   trodAll_stays hl (by simpa using hr.2) h2 (fun x hx => hs x (List.mem_append_right _ hx)) (fun x hx => hsp x (List.mem_append_right _ hx)), rfl⟩
theorem post_kept {f : Func} {s : ChangeSpec} {apart fresh handsOn again : Bool} {W W' : World} {args : Array Value} {ds gs : List (DataW Hd)} {before : List MemPlace} {bt : TypeId}
  (hl : laidOutB P = true) (hpar : f.params.toList.all (fun t => P.readableRec t && decide (t < P.types.size)) = true) (hres : f.resultTypes = #[bt]) (hbt : P.underlying bt = some .bool) (hv : s.vars = [])
  (hW : DataW.Whole enc P f.params.toList s.vars apart W args.toList ds gs before)
  (h1 : (s.fn Hd (ds ++ gs)).results = [.lit (.bool true)]) (h2 : (s.fn Hd (ds ++ gs)).args = ds) (h3 : (s.fn Hd (ds ++ gs)).vars = [])
  (keep : ∀ b, b < W.heap.size → W'.heap[b]? = W.heap[b]?) (ext : W'.os = W.os ∧ W'.output = W.output) : s.post enc P f apart fresh handsOn again W args (.bool true) W' := by
 have hlt := hW.lt
 have hW0 := hW
 obtain ⟨p, q, hA, hV, rfl, hz, hn⟩ := hW0
 rw [hv] at hV
 obtain ⟨rfl, rfl⟩ := trodVars_none hV
 simp only [List.append_nil] at *
 have hsame : ∀ x ∈ p, W.sameAt W' x := by
  intro x hx
  have := hlt x hx
  cases x with
  | cell b off => simp only [World.sameAt, World.cell?]; rw [keep b this]
  | map b => exact keep b this
 have hb : ∀ (W : World) (b : Nat) (sp : Nat → Bool) (hd : Bool), DataW.TrodAll enc P W b sp hd f.resultTypes.toList ((Value.bool true).resultList f.resultTypes.size) [.lit (.bool true)] [] := by
  intro W b sp hd
  rw [hres]
  exact trodAll_mk1 (shut_bool hbt true)
 have ha : ∀ sp : Nat → Bool, (∀ x ∈ p, sp x.block = true) → DataW.TrodAll enc P W' 0 sp true f.params.toList args.toList ds p := fun sp hsp => trodAll_stays hl hpar hA hsame hsp
 have hvs : ∀ sp : Nat → Bool, DataW.TrodVars enc P W' sp s.vars ([] : List (DataW Hd)) [] := by intro sp; rw [hv]; rfl
 refine ⟨ds, [], p, [], p, [], hW, ?_, ?_, ?_, ⟨ext.1, ext.2, fun i hi => ?_⟩, fun _ => ⟨?_, .lit (.bool true) :: ds, [], p, ⟨p, [], ?_, hvs _, by simp, ?_, ?_⟩, fun x hx _ => hx⟩⟩
 ·simp only [List.append_nil]; rw [h1]; exact hb _ _ _ _
 ·simp only [List.append_nil]; rw [h2]; exact ha _ (fun x hx => by simpa using hlt x hx)
 ·simp only [List.append_nil]; rw [h3]; exact hvs _
 ·rw [keep i hi]
  cases hh : W.heap[i]? with
  | none => rfl
  | some o => cases o with
   | cells c t fr => exact ⟨rfl, rfl, rfl, fun _ _ => rfl⟩
   | map es cl => exact .inr ⟨rfl, rfl⟩
   | _ => rfl
 ·exact ok_one hres rfl (okWide_bool_mk hbt true)
 ·have := trodAll_append (ha (fun _ => true) (fun _ _ => rfl)) (hb W' 0 (fun _ => true) true)
  simpa using this
 ·intro b off hx
  have hx' := hz b off hx
  unfold World.frozen? at hx' ⊢
  rw [keep b (by simpa [MemPlace.block] using hlt _ hx)]
  exact hx'
 ·exact hn
end
open Go Go.ChangeShapes Go.WideShapes Go.ChangeAt Go.RowKit
set_option linter.unusedSectionVars false
variable [Sites]
def Heap.bare (H : Heap) : Heap := { n := H.n, get := H.get, ty := fun _ => none }
theorem Ty.bare {P : Program} {H : Heap} : ∀ (n : Nat) {t : TypeId} {cs : List HV}, Ty P H n t cs → Ty P H.bare n t cs
 | 0, _, _, ht => ht
 | n + 1, t, cs, ht => by
  unfold Ty at ht ⊢
  split at ht
  ·exact ht
  ·exact ht
  ·exact ht
  ·rcases ht with ht | ⟨b, len, cap, obj, h1, h2, h3, h4, h5, h6⟩
   ·exact .inl ht
   ·exact .inr ⟨b, len, cap, obj, h1, h2, h3, h4, h5, fun i hi => Ty.bare n (h6 i hi)⟩
  ·exact ⟨ht.1, fun i f hf => Ty.bare n (ht.2 i f hf)⟩
  ·exact ⟨ht.1, fun i hi => Ty.bare n (ht.2 i hi)⟩
  ·exact ht
theorem ArgTy.bare {P : Program} {H : Heap} {n : Nat} {t : TypeId} {x : HV} (a : ArgTy P H n t x) : ArgTy P H.bare n t x := by
 unfold ArgTy at a ⊢
 split at a
 ·obtain ⟨cs, h1, h2⟩ := a; exact ⟨cs, h1, h2.bare⟩
 ·exact a.bare
theorem ArgsTy.bare {P : Program} {H : Heap} {n : Nat} : ∀ {ts : List TypeId} {xs : List HV}, ArgsTy P H n ts xs → ArgsTy P H.bare n ts xs
 | [], [], _ => trivial
 | _ :: _, _ :: _, a => ⟨a.1.bare, a.2.bare⟩
 | [], _ :: _, a => a.elim
 | _ :: _, [], a => a.elim
theorem Still.bare {w : World} {I : Inj} {H : Heap} (h : Still w I H) : Still w I H.bare :=
 ⟨⟨h.rel.bnd, h.rel.img, h.rel.obj, h.rel.inj, h.rel.sz, h.rel.spc, fun _ _ _ _ _ _ e => (by cases e), h.rel.sinj⟩, h.ro, h.nol⟩
section
variable {P : Program} {Hd : Type} {enc : TypeId × Value → Hd}
theorem run_lawT {f : FuncId} {fn : Func} {g : List HV → M HV} {N : Nat} {s : ChangeSpec} {apart fresh handsOn again : Bool} {W : World} {args : Array Value} {ds gs : List (DataW Hd)} {before : List MemPlace} {bt : TypeId} {base : Nat} {r : Reach}
  (hok : FnOk P (fun _ => none) f g) (hl : laidOutB P = true) (hpar : fn.params.toList.all (fun t => P.readableRec t && decide (t < P.types.size)) = true) (hflat : fn.params.toList.all (flatT P N) = true)
  (hres : fn.resultTypes = #[bt]) (hbt : P.underlying bt = some .bool) (hv : s.vars = [])
  (hW : DataW.Whole enc P fn.params.toList s.vars apart W args.toList ds gs before) (hval : ∀ (j : Nat) (t : TypeId) (v : Value), fn.params[j]? = some t → args[j]? = some v → Value.okWide P W r base t v)
  (h1 : (s.fn Hd (ds ++ gs)).results = [.lit (.bool true)]) (h2 : (s.fn Hd (ds ++ gs)).args = ds) (h3 : (s.fn Hd (ds ++ gs)).vars = [])
  (hlaw : ∀ (H : Heap) (xs : List HV), (∀ b cs ro, H.get b = .cells cs ro → ro = true ∧ b < H.n) → (∀ x, H.ty x = none) → ArgsTy P H N fn.params.toList xs → ∃ n H', g xs H n = some (.bool true, H')) :
  Calls P f args W fun e W' => ∃ v, e = .returned v ∧ s.post enc P fn apart fresh handsOn again W args v W' := by
 have hst : Still W { j := fun _ => none, sz := fun _ => none } { n := 0, get := fun _ => .dead } :=
  ⟨⟨fun b x e => (by cases e), fun b b' d e => (by cases e), fun b b' d cs ro e => (by cases e), fun b1 b2 b' d1 d2 c1 c2 ro e => (by cases e), fun b s e => (by cases e), fun b b' d s e => (by cases e), fun b b' d t s e => (by cases e), fun b1 b2 b' d1 d2 s1 s2 e => (by cases e)⟩, fun b cs ro e => (by cases e), fun b s e => (by cases e)⟩
 have hW0 := hW
 obtain ⟨p, q, hA, _⟩ := hW0
 obtain ⟨I, H, xs, hg0, _, hr, ht⟩ := open_args hA hflat (fun j t v a b => hval j t v (by simpa using a) (by simpa using b)) hst
 have hg := hg0.bare
 obtain ⟨n, H', hrun⟩ := hlaw H.bare xs hg.ro (fun _ => rfl) ht.bare
 have hc := hok.2 xs H.bare n (.bool true) H' hrun I W args.toList hg.rel (fun q hb h => by cases h) hr
 rw [Array.toArray_toList] at hc
 refine hc.mono ?_
 rintro e W' ⟨v, I', rfl, hvr, hrel, hstep⟩
 cases hvr
 refine ⟨_, rfl, post_kept hl hpar hres hbt hv hW h1 h2 h3 (fun b hb => hstep.keep b hb ?_ (fun b d s _ => hg.nol b s)) hstep.ext⟩
 intro b' d cs _ hcs
 have := (hg.ro _ _ _ hcs).1
 cases this
end
end Go.Proofs.YtbphjihgbenkdaaGreat.HQ
