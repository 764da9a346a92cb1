/- Lemmas for the row. Conditions: none. -/
import Derived.Test.YtbphjihgbenkdaaGreatHQQl
import Derived.Test.YtbphjihgbenkdaaGreatHQY
import Derived.RangeFuncNested
namespace Go.Proofs.YtbphjihgbenkdaaGreat.HQ
set_option linter.unusedVariables false
set_option linter.unusedSectionVars false
set_option linter.unusedSimpArgs false
open Go
set_option linter.unusedSectionVars false
variable [Sites]
theorem opsDst_mem {o : Oper} {d : Nat} : ∀ {l : List Oper}, o ∈ l → o.dst = some d → d ∈ opsDst l
 | x :: l, h, e => by
  rcases List.mem_cons.1 h with rfl | h
  ·simp [opsDst, e]
  ·have := opsDst_mem h e
   simp only [opsDst]; split
   ·exact List.mem_cons_of_mem _ this
   ·exact this
theorem optM_some {o : Option (List HV)} {f : List HV → M Leaf} {H : Heap} {n : Nat} {r : Leaf × Heap} (h : optM o f H n = some r) : ∃ vs, o = some vs ∧ app (f vs) H n = some r := by
 cases o with
 | none => exact (stk_some (H := H) (n := n) (r := r) h).elim
 | some vs => exact ⟨vs, rfl, h⟩
theorem leafN_some {lv : Nat} {J : List JI} {S : St} {H : Heap} {n : Nat} {r : Leaf × Heap} (h : leafN lv J S H n = some r) : ∃ vs, S.B.clean lv (boxes J) = true ∧ collect J S = some vs ∧ r = (.norm vs, H) := by
 obtain ⟨h1, h2⟩ := gd_some h
 obtain ⟨vs, h3, h4⟩ := optM_some h2
 exact ⟨vs, h1, h3, by simpa [app, ret] using h4.symm⟩
theorem leafX_some {id lv : Nat} {J : List JI} {S : St} {H : Heap} {n : Nat} {r : Leaf × Heap} (h : leafX id lv J S H n = some r) : ∃ vs, S.B.clean lv (boxes J) = true ∧ collect J S = some vs ∧ r = (.exit id vs, H) := by
 obtain ⟨h1, h2⟩ := gd_some h
 obtain ⟨vs, h3, h4⟩ := optM_some h2
 exact ⟨vs, h1, h3, by simpa [app, ret] using h4.symm⟩
theorem loadD_some {P : Program} {t : TypeId} {a : SV} {S : St} {K : SV → St → M Leaf} {H : Heap} {n : Nat} {r : Leaf × Heap} (h : loadD P t a S K H n = some r) : ∃ v, app (K (.v v) S) H n = some r := by
 replace h : app (loadD P t a S K) H n = some r := h
 unfold loadD at h
 split at h
 ·split at h
  ·obtain ⟨v, _, h⟩ := partA_app h; exact ⟨v, h⟩
  ·exact (stk_some h).elim
 ·obtain ⟨b, o, rfl, h⟩ := mP_some h
  split at h
  ·obtain ⟨_, _, _, _, h⟩ := ldN_some h; exact ⟨_, Sh1.d_some h⟩
  ·obtain ⟨_, _, _, _, _, h⟩ := ldC_some h; exact ⟨_, Sh1.d_some h⟩
  ·exact (stk_some h).elim
 ·exact (stk_some h).elim
theorem resD_some {P : Program} {n : Nat} {r : Leaf × Heap} : ∀ {l : List ResultVar} {S : St} {K : List HV → M Leaf} {H : Heap}, resD P l S K H n = some r → ∃ vs, app (K vs) H n = some r
 | [], S, K, H, h => ⟨[], h⟩
 | .tmp t :: l, S, K, H, h => by
  replace h : app (resD P (.tmp t :: l) S K) H n = some r := h
  unfold resD at h
  split at h
  ·obtain ⟨vs, h1⟩ := resD_some h; exact ⟨_, h1⟩
  ·exact (stk_some h).elim
 | .cell a t :: l, S, K, H, h => by
  replace h : app (resD P (.cell a t :: l) S K) H n = some r := h
  unfold resD at h
  obtain ⟨v, h1⟩ := loadD_some h
  obtain ⟨vs, h2⟩ := resD_some h1
  exact ⟨_, h2⟩
section
variable {E : Env} {P : Program} {I0 : Inj} {H0 : Heap} {w0 : World} {esc : Nat → Bool} {res : List ResultVar} {n : Nat}
theorem wpIn_loop_ghost {F : Fence} {m : Nat} {P : Program} {Q : Exit → Act → World → Prop} {a : Act} {w : World} {c : Code} (J : Nat → Act → World → Prop) (n₀ : Nat) (h₀ : J n₀ a w)
  (round : ∀ n a w, J n a w → c.wpIn F m P (Exit.then (fun a' w' => ∃ n', n' < n ∧ J n' a' w') Q) a w) : (Code.loop c).wpIn F m P Q a w := by
 refine wpIn_loop (fun a w => ∃ n, J n a w) (fun a w => leastOf (fun n => J n a w)) ⟨n₀, h₀⟩ ?_
 intro a w hI
 refine wpIn_mono (round _ a w (leastOf_spec hI).1) ?_
 intro e a' w' hq
 cases e with
 | normal =>
  obtain ⟨n', hlt, hI'⟩ := hq
  exact show (∃ n, J n a' w') ∧ leastOf (fun n => J n a' w') < leastOf (fun n => J n a w) from ⟨⟨n', hI'⟩, Nat.lt_of_le_of_lt ((leastOf_spec ⟨n', hI'⟩).2 n' hI') hlt⟩
 | exit id => exact hq
 | goto l => exact hq
 | ret => exact hq
 | panic ch => exact hq
 | outgrown => exact hq
variable {ro : Option Nat}
def ExitOk (E : Env) (P : Program) (I0 : Inj) (H0 : Heap) (w0 : World) (cx : Cx) (C : Ctx) (n : Nat) (r : Leaf × Heap) (Q : Exit → Act → World → Prop) : Prop :=
 ∀ id lv J, C.find id = some (lv, J) → ∀ β I H w S a, leafX id lv J S H n = some r → Inv E P I0 H0 w0 cx β I H w S a → Q (.exit id) a w
def RetOk (E : Env) (P : Program) (I0 : Inj) (H0 : Heap) (w0 : World) (cx : Cx) (res : List ResultVar) (n : Nat) (r : Leaf × Heap) (Q : Exit → Act → World → Prop) : Prop :=
 ∀ β I H w S a, resD P res S (fun vs => ret (.ret vs)) H n = some r → Inv E P I0 H0 w0 cx β I H w S a → Q .ret a w
theorem ret_leaf {S : St} {H H' : Heap} {l : Leaf} (h : resD P res S (fun vs => ret (.ret vs)) H n = some (l, H')) : ∃ vs, l = .ret vs := by
 obtain ⟨vs, h1⟩ := resD_some h
 simp [app, ret] at h1
 exact ⟨vs, h1.1.symm⟩
theorem region_ok (hE : EnvOk P E) (hmx : P.follows .mixedOrders = true) {draw : Bool} {id : Nat} {ops : Array Oper} {cx : Cx} {S : St} {K : St → M Leaf} {r : Leaf × Heap} {β : Nat → Option Nat} {I : Inj} {H : Heap} {w : World} {a : Act} {Q : Exit → Act → World → Prop}
  (hT : ∀ t ∈ opsDst ops.toList, t < cx.nt ∧ ∀ b ∈ cx.bars, t ∈ b.T) {k : Nat} {pub fl : List Nat} (h : regD E P esc k pub fl ops draw S K H n = some r)
  (hI : Inv E P I0 H0 w0 cx β I H w S a) (hK : Post E P I0 H0 w0 cx K n r (Q .normal)) : (Code.region id ops draw).wpIn (FW ro) 0 P Q a w := by
 have hT' : ∀ o ∈ ops.toList, ∀ d, o.dst = some d → d < cx.nt ∧ ∀ b ∈ cx.bars, d ∈ b.T := fun o ho d hd => hT d (opsDst_mem ho hd)
 cases draw with
 | false => exact wpIn_region_list (ops_ok hE hK ops.toList hT' h hI)
 | true =>
  cases k with
  | zero => exact draw_ok hE hmx hT' h hI hK
  | succ k =>
   obtain ⟨hc, h⟩ := gd_some (show gd _ _ _ _ = _ from h)
   exact draw_cut hE hmx hc hT' h hI hK
theorem endL_some {α : Type} {l : Nat} {K0 : M α} {Kx : Nat → M α} {Kr : M α} {H : Heap} {n : Nat} {r : α × Heap} (h : endL l K0 Kx Kr H n = some r) :
  ∃ k vs st pd, H.get l = .spc (.loop k vs st pd) ∧ st ≠ .busy ∧ ((pd = none ∧ K0 (H.set l (.spc (.loop k vs .exhausted pd))) n = some r) ∨ (∃ id, pd = some (.exit id) ∧ Kx id (H.set l (.spc (.loop k vs .exhausted pd))) n = some r) ∨
   (pd = some .ret ∧ Kr (H.set l (.spc (.loop k vs .exhausted pd))) n = some r)) := by
 unfold endL at h
 split at h
 ·rename_i k vs st pd hg
  refine ⟨k, vs, st, pd, hg, ?_⟩
  split at h
  ·cases h
  ·rename_i hb
   refine ⟨hb, ?_⟩
   split at h
   ·exact .inl ⟨rfl, h⟩
   ·exact .inr (.inl ⟨_, rfl, h⟩)
   ·exact .inr (.inr ⟨rfl, h⟩)
   ·cases h
 ·cases h
theorem exitsD_some {S : St} {id : Nat} {H : Heap} {n : Nat} {r : Leaf × Heap} : ∀ {C : Ctx}, exitsD S C id H n = some r → ∃ lv J, C.find id = some (lv, J) ∧ leafX id lv J S H n = some r
 | [], h => (stk_some (H := H) (n := n) (r := r) h).elim
 | (i, e) :: C, h => by
  simp only [exitsD, onX] at h
  cases hb : Nat.beq i id with
  | true =>
   rw [hb] at h
   have := Nat.eq_of_beq_eq_true hb
   subst this
   cases e with
   | none => exact (stk_some (H := H) (n := n) (r := r) h).elim
   | some e => exact ⟨e.1, e.2, by simp only [Ctx.find, hb], h⟩
  | false =>
   rw [hb] at h
   obtain ⟨lv, J, h1, h2⟩ := exitsD_some (C := C) h
   exact ⟨lv, J, by simp only [Ctx.find, hb]; exact h1, h2⟩
theorem rf_ok (hE : EnvOk P E) {g : Operand} {ps : Array Tmp} {as bd : Code} {k : Nat} {sl : List Nat} {lv : Nat} {C : Ctx} {cx : Cx} {S : St} {K : St → M Leaf} {r : Leaf × Heap} {Q : Exit → Act → World → Prop} {β : Nat → Option Nat} {I : Inj} {H : Heap} {w : World} {a : Act}
  (hro : ∀ l, ro = some l → ∃ r, w0.heap[l]? = some (.loop r)) (hs : Sites.ok k 0 cx.nt ps as bd) (h : den E P esc res (.rangeFunc g ps as bd) (.r k sl) lv C S K H n = some r) (hI : Inv E P I0 H0 w0 cx β I H w S a) (hK : Post E P I0 H0 w0 cx K n r (Q .normal))
  (hX : ExitOk E P I0 H0 w0 cx C n r Q) (hR : RetOk E P I0 H0 w0 cx res n r Q) : (Code.rangeFunc g ps as bd).wpIn (FW ro) 0 P Q a w := by
 replace h : app (den E P esc res (.rangeFunc g ps as bd) (.r k sl) lv C S K) H n = some r := h
 simp only [den] at h
 split at h
 case h_2 => exact (stk_some h).elim
 rename_i hv vs eg esl
 obtain ⟨h, hny⟩ := ny_some h
 replace h : app (bnd (E.D hv [.yld H.n]) fun _ => endL H.n (K S)
    (exitsD S C)
    (resD P res S fun vs => ret (.ret vs))) (H.push (.spc (.loop k vs .ready none))) n = some r := h
 obtain ⟨rv, H2, hD, hend⟩ := bnd_some h
 obtain ⟨k2, vs2, st2, pd2, hg2, hnb, hcase⟩ := endL_some hend
 refine wpIn_rangeFunc fun fn _ => ?_
 -- the record's block, and the mark's
 obtain ⟨rec, wD, ds, hent, hrec, hrelD, hstepD, hmk⟩ : ∃ (rec : Loop) (wD : World) (ds : List Deferred), (Instr.enterLoop fn a.tmps ps as bd ro).run P w = .ok (wD.heap.size, ds) (wD.alloc (.loop rec)) ∧
   (rec.state = .ready ∧ rec.pending = none ∧ rec.tmps = a.tmps ∧ rec.params = ps ∧ rec.assign = as ∧ rec.body = bd) ∧ Rel I H wD ∧ Step I H w I H wD ∧
   ∀ {I3 : Inj} {H3 : Heap} {w3 : World}, Step (I.mv H.n wD.heap.size) (H.push (.spc (.loop k vs .ready none))) (wD.alloc (.loop rec)) I3 H3 w3 → Step I H wD (I.mv H.n wD.heap.size) (H.push (.spc (.loop k vs .ready none))) (wD.alloc (.loop rec)) → Marks I3 w0 w3 (ds ++ a.defers) := by
  cases hc : ro with
  | none =>
   refine ⟨{ state := .ready, pending := none, fn, tmps := a.tmps, params := ps, assign := as, body := bd, defers := w.heap.size }, w.alloc (.deferred (some [])), [{ target := .collected w.heap.size, args := #[] }],
    ?_, ⟨rfl, rfl, rfl, rfl, rfl, rfl⟩, hI.rel.more _, Step.more I H w _, fun hs3 hs1 => ?_⟩
   ·have := run_enterLoop_outer (P := P) (w := w) fn a.tmps ps as bd
    rw [World.size_alloc]; exact this
   ·refine Marks.step (Marks.step (w := w.alloc (.deferred (some []))) ?_ hs1) hs3
    obtain ⟨Ds, q1, q2, q3⟩ := hI.defers
    refine ⟨w.heap.size :: Ds, by simp [q1], List.nodup_cons.2 ⟨fun hm => ?_, q2⟩, fun D hD => ?_⟩
    ·have := lt_of_heap (q3 _ hm).1; omega
    ·rcases List.mem_cons.1 hD with rfl | hD
     ·exact ⟨heap_alloc_eq _ _, hI.step.size, fun x e he => by have := hI.rel.img _ _ _ he; omega⟩
     ·obtain ⟨c1, c2, c3⟩ := q3 D hD
      exact ⟨by rw [heap_alloc_lt w _ (lt_of_heap c1)]; exact c1, c2, c3⟩
  | some l0 =>
   obtain ⟨r0, hr0⟩ := hro l0 hc
   obtain ⟨r1, hr1⟩ := hI.step.lp l0 r0 hr0
   exact ⟨{ state := .ready, pending := none, fn, tmps := a.tmps, params := ps, assign := as, body := bd, defers := r1.defers }, w, [], run_enterLoop_inner hr1 fn a.tmps ps as bd, ⟨rfl, rfl, rfl, rfl, rfl, rfl⟩, hI.rel, .refl I H w, fun hs3 hs1 => (hI.defers.step hs1).step hs3⟩
 obtain ⟨e1r, e2r, e3r, e4r, e5r, e6r⟩ := hrec
 have hLR : LRel I k vs .ready none rec := by
  refine ⟨e1r, e2r, by rw [e3r, e4r, e5r, e6r, hI.sz]; exact hs, fun p hp => ?_⟩
  rw [e3r]
  have := hI.fr p.1
  rw [slotVals_get esl p hp] at this
  exact this
 have hrel1 := hrelD.newL hLR
 have hstep1 := Step.newL hrelD k vs .ready none rec
 have hI1 := (hI.heapput hstepD hrelD).heapput hstep1 hrel1
 have hyv : VR (I.mv H.n wD.heap.size) (.yld H.n) (.func (.yield wD.heap.size) #[] #[]) := VR.yld (by simp [Inj.mv])
 have hvv : VR (I.mv H.n wD.heap.size) hv (a.eval g) := hI1.evv eg
 obtain ⟨f, first, cap, hfv, hb, hcalls⟩ := (hE.D hv [.yld H.n] _ n rv H2 hD _ _ _ [.func (.yield wD.heap.size) #[] #[]] hrel1 hI1.gl hvv (.cons hyv .nil)).resolve_right (by rintro ⟨l, l', hh, _⟩; exact hny l hh)
 refine ⟨wD.heap.size, ds, wD.alloc (.loop rec), { target := .fn (.func f) cap, args := first ++ #[.func (.yield wD.heap.size) #[] #[]] }, wD.alloc (.loop rec), f,
  first ++ #[.func (.yield wD.heap.size) #[] #[]] ++ cap, wD.alloc (.loop rec), ?_, ?_, fun _ _ => trivial, ?_, fun hh => (by simp [FW] at hh), ?_⟩
 ·exact hent
 ·simp only [resolve, hfv]
  simp [go_sem, Deferred.ofValue, Act.eval]
 ·simp [invoke, run_callFunc_body hb]
 ·refine callsIn_FW.2 (hcalls.mono ?_)
  rintro e w3 ⟨u, I3, rfl, hu, hrel3, hstep3⟩
  have hI3 := hI1.heapput hstep3 hrel3
  have hj1 : (I.mv H.n wD.heap.size).j H.n = some (wD.heap.size, 0) := by simp [Inj.mv]
  have hj3 := hstep3.le.j _ _ hj1
  obtain ⟨_, _, hr3, hq3⟩ := hrel3.spc _ _ _ _ hj3 hg2
  obtain ⟨r3, rfl, hL3⟩ := hq3.is_loop
  obtain ⟨e1, e2, e3, e4⟩ := hL3
  have hend := run_endLoop (P := P) hr3 (by rw [e1]; exact hnb)
  have hrel4 := hrel3.setL hj3 hg2 hr3 .exhausted pd2
  have hstep4 := Step.setL hj3 hg2 .exhausted pd2 { r3 with state := .exhausted, pending := pd2 } (w := w3)
  have hI4 := hI3.heapput hstep4 hrel4
  rw [show ({ r3 with state := .exhausted, pending := pd2 } : Loop) = { r3 with state := .exhausted } by rw [← e2]] at hI4 hstep4
  -- the mark
  have hm4 := hmk (hstep3.trans hstep4) hstep1
  have hI5 : Inv E P I0 H0 w0 cx β I3 (H2.set H.n (.spc (.loop k2 vs2 .exhausted pd2))) (w3.putObj wD.heap.size (.loop { r3 with state := .exhausted })) S { a with defers := ds ++ a.defers } :=
   ⟨hI4.step, hI4.rel, hI4.fr, hI4.br, hI4.fresh, hI4.gl, hI4.sz, hI4.anc, hm4⟩
  generalize hW5 : w3.putObj wD.heap.size (.loop { r3 with state := .exhausted }) = W5 at hend hI5
  refine ⟨pd2, W5, by rw [← e2]; exact hend, ?_⟩
  rcases hcase with ⟨rfl, hk⟩ | ⟨id, rfl, hk⟩ | ⟨rfl, hk⟩
  ·exact hK _ _ _ _ _ _ hk hI5
  ·obtain ⟨lv', J, hf, hk⟩ := exitsD_some hk
   exact wpIn_exit (hX id lv' J hf _ _ _ _ _ _ hk hI5)
  ·exact wpIn_ret (hR _ _ _ _ _ _ hk hI5)
def hasRet : Code → Bool
 | .ret => true
 | .seq x y => hasRet x || hasRet y
 | .cond _ x y => hasRet x || hasRet y
 | .block _ c => hasRet c
 | .loop c => hasRet c
 | .rangeFunc _ _ _ _ => true
 | _ => false
theorem hasRet_l {x y : Bool} (h : x = true) : (x || y) = true := by simp [h]
theorem hasRet_r {x y : Bool} (h : y = true) : (x || y) = true := by simp [h]
theorem den_ok (hE : EnvOk P E) (hmx : P.follows .mixedOrders = true) (hro : ∀ l, ro = some l → ∃ r, w0.heap[l]? = some (.loop r)) : ∀ (c : Code) (an : Ann) (lv : Nat) (C : Ctx) (cx : Cx) {S : St} {K : St → M Leaf} {r : Leaf × Heap} {Q : Exit → Act → World → Prop} {β : Nat → Option Nat} {I : Inj} {H : Heap} {w : World} {a : Act},
  (∀ t ∈ assigned c, t < cx.nt ∧ ∀ b ∈ cx.bars, t ∈ b.T) → siteOk cx.nt c an → (∀ b ∈ cx.bars, b.lv ≤ lv) →
  den E P esc res c an lv C S K H n = some r → Inv E P I0 H0 w0 cx β I H w S a → Post E P I0 H0 w0 cx K n r (Q .normal) → ExitOk E P I0 H0 w0 cx C n r Q → (hasRet c = true → RetOk E P I0 H0 w0 cx res n r Q) → c.wpIn (FW ro) 0 P Q a w := by
 intro c
 induction c with
 | skip => intro an lv C cx S K r Q β I H w a _ _ _ h hI hK _ _; exact wpIn_skip (hK β I H w S a h hI)
 | seq x y ihx ihy =>
  intro an lv C cx S K r Q β I H w a hT hS hlv h hI hK hX hR
  refine wpIn_seq ?_
  refine ihx an.l lv C cx (Q := Exit.then (y.wpIn (FW ro) 0 P Q) Q) (fun t ht => hT t (List.mem_append_left _ ht)) (fun s hs => hS s (List.mem_append_left _ hs)) hlv h hI ?_ ?_ ?_
  ·intro β' I' H' w' S' a' h' hI'
   exact ihy an.rt lv C cx (fun t ht => hT t (List.mem_append_right _ ht)) (fun s hs => hS s (List.mem_append_right _ hs)) hlv h' hI' hK hX (fun e => hR (hasRet_r e))
  ·exact hX
  ·exact fun e => hR (hasRet_l e)
 | cond t x y ihx ihy =>
  intro an lv C cx S K r Q β I H w a hT hS hlv h hI hK hX hR
  have hTx : ∀ t ∈ assigned x, t < cx.nt ∧ ∀ b ∈ cx.bars, t ∈ b.T := fun t ht => hT t (List.mem_append_left _ ht)
  have hTy : ∀ t ∈ assigned y, t < cx.nt ∧ ∀ b ∈ cx.bars, t ∈ b.T := fun t ht => hT t (List.mem_append_right _ ht)
  replace h : app (den E P esc res (.cond t x y) an lv C S K) H n = some r := h
  simp only [den] at h
  split at h
  ·rename_i b eb
   have hb : a.eval t = .bool b := by
    have := hI.evv eb
    generalize a.eval t = u at this
    cases this; rfl
   refine wpIn_cond hb ?_
   split at h
   ·cases b
    ·exact ihy an.rt lv C cx hTy (fun s hs => hS s (List.mem_append_right _ hs)) hlv h hI hK hX (fun e => hR (hasRet_r e))
    ·exact ihx an.l lv C cx hTx (fun s hs => hS s (List.mem_append_left _ hs)) hlv h hI hK hX (fun e => hR (hasRet_l e))
   ·rename_i J _
    -- the two ways meet again
    have key : ∀ (z : Code) (an' : Ann), (∀ an (lv : Nat) (C : Ctx) (cx : Cx) {S : St} {K : St → M Leaf} {r : Leaf × Heap} {Q : Exit → Act → World → Prop} {β : Nat → Option Nat} {I : Inj} {H : Heap} {w : World} {a : Act},
      (∀ t ∈ assigned z, t < cx.nt ∧ ∀ b ∈ cx.bars, t ∈ b.T) → siteOk cx.nt z an → (∀ b ∈ cx.bars, b.lv ≤ lv) →
      den E P esc res z an lv C S K H n = some r → Inv E P I0 H0 w0 cx β I H w S a → Post E P I0 H0 w0 cx K n r (Q .normal) → ExitOk E P I0 H0 w0 cx C n r Q → (hasRet z = true → RetOk E P I0 H0 w0 cx res n r Q) → z.wpIn (FW ro) 0 P Q a w) →
      (∀ t ∈ assigned z, t ∈ assigned x ++ assigned y) → siteOk cx.nt z an' → (hasRet z = true → hasRet (.cond t x y) = true) →
      jn (den E P esc res z an' (lv + 1) C (S.bar (lv + 1)) (leafN (lv + 1) J)) (fun vs => setJ J vs (S.kill (assigned x ++ assigned y)) K) H n = some r → z.wpIn (FW ro) 0 P Q a w := by
     intro z an' ih hz hS hZ hj
     unfold jn at hj
     generalize hm : den E P esc res z an' (lv + 1) C (S.bar (lv + 1)) (leafN (lv + 1) J) H n = m at hj
     cases m with
     | none => cases hj
     | some lh =>
      have hanc := hI.anchor hlv (assigned x ++ assigned y)
      refine ih an' (lv + 1) C _ (Q := Q) (r := lh) ?_ (by exact hS) ?_ hm hanc ?_ ?_ ?_
      ·intro t ht
       have := hT t (hz t ht)
       exact ⟨this.1, fun b hb => by
        rcases List.mem_cons.1 hb with rfl | hb
        ·exact hz t ht
        ·exact this.2 b hb⟩
      ·intro b hb
       rcases List.mem_cons.1 hb with rfl | hb
       ·exact Nat.le_refl _
       ·have := hlv b hb; omega
      ·intro β' I' H' w' S' a' hl hI'
       obtain ⟨vs, g1, g2, rfl⟩ := leafN_some hl
       simp only at hj
       obtain ⟨S2, s1, s2⟩ := setJ_some hj
       exact hK _ _ _ _ _ _ s2 (join_inv hI' (fun t _ _ => hI.fr t) (fun b hb => (hI.anc b hb).2.1) g2 g1 s1)
      ·intro id lv' J' hf β' I' H' w' S' a' hl hI'
       obtain ⟨vs, _, _, rfl⟩ := leafX_some hl
       simp only at hj
       cases hj
       exact hX id lv' J' hf _ _ _ _ _ _ hl hI'.less
      ·intro hz1 β' I' H' w' S' a' hl hI'
       obtain ⟨l, H2⟩ := lh
       obtain ⟨vs, rfl⟩ := ret_leaf hl
       simp only at hj
       cases hj
       exact hR (hZ hz1) _ _ _ _ _ _ hl hI'.less
    cases b
    ·exact key y an.rt ihy (fun t ht => List.mem_append_right _ ht) (fun s hs => hS s (List.mem_append_right _ hs)) hasRet_r h
    ·exact key x an.l ihx (fun t ht => List.mem_append_left _ ht) (fun s hs => hS s (List.mem_append_left _ hs)) hasRet_l h
  ·exact (stk_some h).elim
 | block id c ih =>
  intro an lv C cx S K r Q β I H w a hT hS hlv h hI hK hX hR
  replace h : app (den E P esc res (.block id c) an lv C S K) H n = some r := h
  simp only [den] at h
  refine wpIn_block ?_
  split at h
  ·rename_i J _
   replace h : blk id (den E P esc res c an.l (lv + 1) ((id, some (lv + 1, J)) :: C) (S.bar (lv + 1)) (leafN (lv + 1) J)) (fun vs => setJ J vs (S.kill (assigned c)) K) H n = some r := h
   unfold blk at h
   generalize hm : den E P esc res c an.l (lv + 1) ((id, some (lv + 1, J)) :: C) (S.bar (lv + 1)) (leafN (lv + 1) J) H n = m at h
   cases m with
   | none => cases h
   | some lh =>
    have hanc := hI.anchor hlv (assigned c)
    have hjoin : ∀ {vs : List HV} {H' : Heap} {β' : Nat → Option Nat} {I' : Inj} {w' : World} {S' : St} {a' : Act}, setJ J vs (S.kill (assigned c)) K H' n = some r → collect J S' = some vs → S'.B.clean (lv + 1) (boxes J) = true →
      Inv E P I0 H0 w0 { cx with bars := { lv := lv + 1, B := S.B, β := β, T := assigned c, a := a, I := I } :: cx.bars } β' I' H' w' S' a' → Q .normal a' w' := by
     intro vs H' β' I' w' S' a' hj g2 g1 hI'
     obtain ⟨S2, s1, s2⟩ := setJ_some hj
     exact hK _ _ _ _ _ _ s2 (join_inv hI' (fun t _ _ => hI.fr t) (fun b hb => (hI.anc b hb).2.1) g2 g1 s1)
    refine ih an.l (lv + 1) _ _ (Q := Exit.inBlock id Q) (r := lh) ?_ (by exact hS) ?_ hm hanc ?_ ?_ ?_
    ·intro t ht
     have := hT t ht
     exact ⟨this.1, fun b hb => by
      rcases List.mem_cons.1 hb with rfl | hb
      ·exact ht
      ·exact this.2 b hb⟩
    ·intro b hb
     rcases List.mem_cons.1 hb with rfl | hb
     ·exact Nat.le_refl _
     ·have := hlv b hb; omega
    ·intro β' I' H' w' S' a' hl hI'
     obtain ⟨vs, g1, g2, rfl⟩ := leafN_some hl
     exact hjoin h g2 g1 hI'
    ·intro id' lv' J' hf β' I' H' w' S' a' hl hI'
     obtain ⟨vs, g1, g2, rfl⟩ := leafX_some hl
     simp only [Ctx.find] at hf
     simp only at h
     show (if id' = id then Q .normal a' w' else Q (.exit id') a' w')
     split at hf
     ·rename_i hb
      cases hf
      have hid : id = id' := Nat.eq_of_beq_eq_true hb
      subst hid
      rw [if_pos rfl]
      rw [show Nat.beq id id = true from Nat.beq_refl id] at h
      exact hjoin h g2 g1 hI'
     ·rename_i hb
      have hne : id' ≠ id := by intro hh; subst hh; rw [Nat.beq_refl] at hb; cases hb
      rw [if_neg hne]
      rw [beq_ne hne] at h
      cases h
      exact hX id' lv' J' hf _ _ _ _ _ _ hl hI'.less
    ·intro hz1 β' I' H' w' S' a' hl hI'
     obtain ⟨l, H2⟩ := lh
     obtain ⟨vs, rfl⟩ := ret_leaf hl
     simp only at h
     cases h
     exact hR hz1 _ _ _ _ _ _ hl hI'.less
  ·refine ih an.l lv _ cx (Q := Exit.inBlock id Q) hT hS hlv h hI (fun β' I' H' w' S' a' h' hI' => hK _ _ _ _ _ _ h' hI') ?_ (fun e β' I' H' w' S' a' h' hI' => hR e _ _ _ _ _ _ h' hI')
   intro id' lv' J' hf β' I' H' w' S' a' hl hI'
   simp only [Ctx.find] at hf
   split at hf
   ·cases hf
   ·rename_i hb
    have hne : id' ≠ id := by intro hh; subst hh; rw [Nat.beq_refl] at hb; cases hb
    show (if id' = id then Q .normal a' w' else Q (.exit id') a' w')
    rw [if_neg hne]
    exact hX id' lv' J' hf _ _ _ _ _ _ hl hI'
 | loop c ih =>
  intro an lv C cx S K r Q β I H w a hT hS hlv h hI hK hX hR
  replace h : app (den E P esc res (.loop c) an lv C S K) H n = some r := h
  simp only [den] at h
  split at h
  ·rename_i J _
   obtain ⟨vs0, hc0, h⟩ := optM_some h
   replace h : loopGo (fun vs => setJ J vs ((S.kill (assigned c)).bar (lv + 1)) fun S' => den E P esc res c an.l (lv + 1) C S' (leafN (lv + 1) J)) n vs0 H n = some r := h
   -- at the head: the state with the values laid over it
   let Head (vs : List HV) (β : Nat → Option Nat) (I : Inj) (H : Heap) (a : Act) (w : World) : Prop :=
    ∀ S1, setS J vs (S.kill (assigned c)) = some S1 → Inv E P I0 H0 w0 cx β I H w S1 a
   have hbase : ∀ b ∈ cx.bars, Bx.under b.lv S.B = b.B := fun b hb => (hI.anc b hb).2.1
   refine wpIn_loop_ghost (fun k a w => ∃ vs β I H, loopGo (fun vs => setJ J vs ((S.kill (assigned c)).bar (lv + 1)) fun S' => den E P esc res c an.l (lv + 1) C S' (leafN (lv + 1) J)) k vs H n = some r ∧ Head vs β I H a w) n
    ⟨vs0, β, I, H, h, fun S1 hs => ?_⟩ ?_
   ·obtain ⟨q1, q2, q3, q4, q5⟩ := setS_get hs hc0
    refine hI.congr (fun t => ?_) (fun d => ?_) (fun b _ => q5 b.lv)
    ·by_cases hin : t ∈ jslots J
     ·obtain ⟨hh, e1, e2⟩ := q1 t hin
      exact .inl (by rw [e1, e2])
     ·rw [q2 t hin]
      show (Fr.mask (assigned c) S.F).get t = _ ∨ (Fr.mask (assigned c) S.F).get t = _
      rw [Fr.get_mask]; split
      ·exact .inr rfl
      ·exact .inl rfl
    ·by_cases hin : d ∈ boxes J
     ·exact (q3 d hin).1
     ·exact q4 d hin
   ·intro k a w ⟨vs, β, I, H, hgo, hhead⟩
    cases k with
    | zero => exact (stk_some (H := H) (n := n) (r := r) hgo).elim
    | succ k =>
     replace hgo : (match setJ J vs ((S.kill (assigned c)).bar (lv + 1)) (fun S' => den E P esc res c an.l (lv + 1) C S' (leafN (lv + 1) J)) H n with
      | some (.norm vs', H') => loopGo (fun vs => setJ J vs ((S.kill (assigned c)).bar (lv + 1)) fun S' => den E P esc res c an.l (lv + 1) C S' (leafN (lv + 1) J)) k vs' H' n
      | r => r) = some r := hgo
     generalize hm : setJ J vs ((S.kill (assigned c)).bar (lv + 1)) (fun S' => den E P esc res c an.l (lv + 1) C S' (leafN (lv + 1) J)) H n = m at hgo
     cases m with
     | none => cases hgo
     | some lh =>
      obtain ⟨Sh, s1, s2⟩ := setJ_some hm
      obtain ⟨S1, p1, p2, p3⟩ := setS_congr (B := S.kill (assigned c)) s1 (fun _ => rfl) (fun _ => rfl)
      have hI1 := hhead S1 p1
      have hund : ∀ lv', Bx.under lv' Sh.B = Bx.under lv' (Bx.bar (lv + 1) S.B) := fun lv' => setS_under s1 lv'
      have hIh : Inv E P I0 H0 w0 { cx with bars := { lv := lv + 1, B := S.B, β := β, T := assigned c, a := a, I := I } :: cx.bars } β I H w Sh a := by
       have hIc : Inv E P I0 H0 w0 cx β I H w Sh a := hI1.congr (fun t => .inl (p2 t)) p3 (fun b hb => by
        rw [hund, (hI1.anc b hb).2.1]
        have := hlv b hb
        rw [under_bar_ne (by omega)]; exact hbase b hb)
       refine ⟨hIc.step, hIc.rel, hIc.fr, hIc.br, hIc.fresh, hIc.gl, hIc.sz, fun b hb => ?_, hIc.defers⟩
       rcases List.mem_cons.1 hb with rfl | hb
       ·exact ⟨fun _ _ => rfl, by rw [hund]; exact under_bar _ _, fun _ _ => rfl, .refl I⟩
       ·exact hIc.anc b hb
      -- what the jslots that the loop leaves alone hold
      have hkeep : ∀ t, t ∉ assigned c → t ∉ jslots J → SVR I β S.B (S.F.get t) (a.tmps.getD t undef) := by
       intro t ht hj
       have h1 := hI1.fr t
       have h2 : S1.F.get t = S.F.get t := by
        rw [setS_other p1 t hj]
        show (Fr.mask (assigned c) S.F).get t = _
        rw [Fr.get_mask, if_neg ht]
       rw [h2] at h1
       refine h1.mono (.refl I) (fun _ _ _ h => h) (fun d hd => ?_)
       by_cases hin : d ∈ boxes J
       ·exact collect_box hc0 d hin
       ·rw [setS_otherB p1 d hin] at hd; exact hd
      refine ih an.l (lv + 1) C _ (r := lh) ?_ (by exact hS) ?_ s2 hIh ?_ ?_ ?_
      ·intro t ht
       have := hT t ht
       exact ⟨this.1, fun b hb => by
        rcases List.mem_cons.1 hb with rfl | hb
        ·exact ht
        ·exact this.2 b hb⟩
      ·intro b hb
       rcases List.mem_cons.1 hb with rfl | hb
       ·exact Nat.le_refl _
       ·have := hlv b hb; omega
      ·intro β' I' H' w' S' a' hl hI'
       obtain ⟨vs', g1, g2, rfl⟩ := leafN_some hl
       simp only at hgo
       exact ⟨k, Nat.lt_succ_self k, vs', β', I', H', hgo, fun S2 hs2 => join_inv hI' hkeep hbase g2 g1 hs2⟩
      ·intro id lv' J' hf β' I' H' w' S' a' hl hI'
       obtain ⟨vs', _, _, rfl⟩ := leafX_some hl
       simp only at hgo
       cases hgo
       exact hX id lv' J' hf _ _ _ _ _ _ hl hI'.less
      ·intro hz1 β' I' H' w' S' a' hl hI'
       obtain ⟨l, H2⟩ := lh
       obtain ⟨vs', rfl⟩ := ret_leaf hl
       simp only at hgo
       cases hgo
       exact hR hz1 _ _ _ _ _ _ hl hI'.less
  ·exact (stk_some h).elim
 | exit id =>
  intro an lv C cx S K r Q β I H w a _ _ _ h hI _ hX _
  replace h : app (den E P esc res (.exit id) an lv C S K) H n = some r := h
  simp only [den] at h
  split at h
  ·rename_i lv' J hf; exact wpIn_exit (hX id lv' J hf _ _ _ _ _ _ h hI)
  ·exact (stk_some h).elim
 | ret =>
  intro an lv C cx S K r Q β I H w a _ _ _ h hI _ _ hR
  exact wpIn_ret (hR rfl _ _ _ _ _ _ h hI)
 | region id ops draw =>
  intro an lv C cx S K r Q β I H w a hT hS hlv h hI hK hX hR
  replace h : app (den E P esc res (.region id ops draw) an lv C S K) H n = some r := h
  simp only [den] at h
  split at h
  ·exact region_ok hE hmx hT h hI hK
  ·rename_i J _
   replace h : jn (regD E P esc an.l.k an.l.L an.rt.L ops draw (S.bar (lv + 1)) (leafN (lv + 1) J)) (fun vs => setJ J vs (S.kill (opsDst ops.toList)) K) H n = some r := h
   unfold jn at h
   generalize hm : regD E P esc an.l.k an.l.L an.rt.L ops draw (S.bar (lv + 1)) (leafN (lv + 1) J) H n = m at h
   cases m with
   | none => cases h
   | some lh =>
    have hanc := hI.anchor hlv (opsDst ops.toList)
    refine region_ok hE hmx (r := lh) (S := S.bar (lv + 1)) ?_ hm hanc ?_
    ·intro t ht
     have := hT t ht
     exact ⟨this.1, fun b hb => by
      rcases List.mem_cons.1 hb with rfl | hb
      ·exact ht
      ·exact this.2 b hb⟩
    ·intro β' I' H' w' S' a' hl hI'
     obtain ⟨vs, g1, g2, rfl⟩ := leafN_some hl
     simp only at h
     obtain ⟨S2, s1, s2⟩ := setJ_some h
     exact hK _ _ _ _ _ _ s2 (join_inv hI' (fun t _ _ => hI.fr t) (fun b hb => (hI.anc b hb).2.1) g2 g1 s1)
 | rangeFunc g ps as bd _ _ =>
  intro an lv C cx S K r Q β I H w a hT hS hlv h hI hK hX hR
  cases an with
  | r k sl =>
   exact rf_ok hE hro (hS ⟨k, ps, as, bd⟩ (List.mem_singleton.2 rfl)) h hI hK hX (hR rfl)
  | z => exact (stk_some (H := H) (n := n) (r := r) h).elim
  | n _ _ _ => exact (stk_some (H := H) (n := n) (r := r) h).elim
 | _ => intro an lv C cx S K r Q β I H w a _ _ _ h _ _ _ _; exact (stk_some (H := H) (n := n) (r := r) h).elim
end
end Go.Proofs.YtbphjihgbenkdaaGreat.HQ
