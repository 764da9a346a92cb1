/- Lemmas for the row. Conditions: none. -/
import Derived.Test.YtbphjihgbenkdaaGreatHQG
namespace Go.Proofs.YtbphjihgbenkdaaGreat.HQ
set_option linter.unusedVariables false
set_option linter.unusedSectionVars false
set_option linter.unusedSimpArgs false
open Go
set_option linter.unusedSectionVars false
variable [Sites]
section
variable {E : Env} {P : Program} {I0 : Inj} {H0 : Heap} {w0 : World} {nt : Cx} {β : Nat → Option Nat} {I : Inj} {H : Heap} {w : World} {S : St} {a : Act}
variable {K : SV → St → M Leaf} {n : Nat} {r : Leaf × Heap} {next : Act → World → Prop} {Q : Exit → Act → World → Prop} {o : Oper} {ro : Option Nat}
theorem Inv.boxnew (hI : Inv E P I0 H0 w0 nt β I H w S a) {d : Nat} {cs : List HV} {c : Array Value} (el : TypeId) (hd : S.B.get d = none) (hr : VRs I cs c.toList) (h1 : ∀ v ∈ c.toList, v.oneCell' = true) :
  Inv E P I0 H0 w0 nt (fun x => if x = d then some w.heap.size else β x) I H (w.alloc (.cells c el)) { S with B := .set d cs S.B } a where
 step := hI.step.trans (Step.more I H w _)
 rel := hI.rel.more _
 fr := fun t => (hI.fr t).mono (.refl I) (fun d' b h e => by
   by_cases hh : d' = d
   ·subst hh; exact absurd hd h
   ·rw [if_neg hh]; exact e) (fun d' h => by rw [Bx.get_set]; split <;> simp_all)
 br := {
  box := by
   intro d' cs' e
   rw [Bx.get_set] at e
   split at e
   ·rename_i hh; subst hh; cases e
    exact ⟨w.heap.size, c, el, by simp, heap_alloc_eq _ _, hr, h1⟩
   ·rename_i hh
    obtain ⟨b, c', el', q1, q2, q3⟩ := hI.br.box d' cs' e
    exact ⟨b, c', el', by rw [if_neg hh]; exact q1, by rw [heap_alloc_lt w _ (lt_of_heap q2)]; exact q2, q3⟩
  inj := by
   intro d1 d2 b e1 e2 q1 q2
   rw [Bx.get_set] at e1 e2
   by_cases h1' : d1 = d <;> by_cases h2' : d2 = d
   ·omega
   ·rw [if_pos h1'] at q1; rw [if_neg h2'] at q2 e2
    cases q1
    cases hB : S.B.get d2 with
    | none => exact absurd hB e2
    | some x =>
     obtain ⟨b2, c', el', u1, u2, _⟩ := hI.br.box d2 x hB
     rw [q2] at u1; cases u1
     have := lt_of_heap u2; omega
   ·rw [if_pos h2'] at q2; rw [if_neg h1'] at q1 e1
    cases q2
    cases hB : S.B.get d1 with
    | none => exact absurd hB e1
    | some x =>
     obtain ⟨b2, c', el', u1, u2, _⟩ := hI.br.box d1 x hB
     rw [q1] at u1; cases u1
     have := lt_of_heap u2; omega
   ·rw [if_neg h1'] at q1 e1; rw [if_neg h2'] at q2 e2
    exact hI.br.inj d1 d2 b e1 e2 q1 q2
  img := by
   intro d' b e q x y hx
   rw [Bx.get_set] at e
   by_cases hh : d' = d
   ·rw [if_pos hh] at q; cases q
    have := hI.rel.img x _ y hx; omega
   ·rw [if_neg hh] at q e; exact hI.br.img d' b e q x y hx }
 fresh := by
  intro d' b e q
  rw [Bx.get_set] at e
  by_cases hh : d' = d
  ·rw [if_pos hh] at q; cases q; exact hI.step.size
  ·rw [if_neg hh] at q e; exact hI.fresh d' b e q
 gl := hI.gl
 sz := hI.sz
 anc := by
  intro b hb
  obtain ⟨h1', h2', h3', h4'⟩ := hI.anc b hb
  refine ⟨h1', h2', fun d' hd' => ?_, h4'⟩
  have hne : d' ≠ d := by
   intro hh; subst hh
   rw [← h2'] at hd'
   exact under_dom S.B d' hd' hd
  rw [if_neg hne]; exact h3' d' hd'
 defers := hI.defers.of fun D q1 q2 => ⟨heap_alloc_lt w _ (lt_of_heap q1), q2⟩
theorem nw_app {α : Type} {cs : List HV} {f : Nat → M α} {r : α × Heap} (h : nw cs f H n = some r) : app (f H.n) (H.push (.cells cs false)) n = some r := h
theorem Inv.heapnewT (hI : Inv E P I0 H0 w0 nt β I H w S a) (t : Option (Nat × Option Nat)) {cs : List HV} {c : Array Value} (el : TypeId) (ht : ∀ e s, t = some (e, s) → el = e ∧ ∀ k, s = some k → c.size = k) (hr : VRs I cs c.toList) (h1 : ∀ v ∈ c.toList, v.oneCell' = true) :
  Inv E P I0 H0 w0 nt β (I.up H.n w.heap.size c.size) (H.pushT t (.cells cs false)) (w.alloc (.cells c el)) S a :=
 hI.heapput (Step.newT hI.rel t cs c el) (hI.rel.newT t el ht (box_cells hr h1))
theorem Inv.heapnew (hI : Inv E P I0 H0 w0 nt β I H w S a) {cs : List HV} {c : Array Value} (el : TypeId) (hr : VRs I cs c.toList) (h1 : ∀ v ∈ c.toList, v.oneCell' = true) :
  Inv E P I0 H0 w0 nt β (I.up H.n w.heap.size c.size) (H.push (.cells cs false)) (w.alloc (.cells c el)) S a :=
 hI.heapput (Step.new hI.rel cs c el) (hI.rel.new el (box_cells hr h1))
theorem up_j (I : Inj) (b b' s : Nat) : (I.up b b' s).j b = some (b', 0) := by simp [Inj.up]
theorem nwO_app {α : Type} {t : Option (Nat × Option Nat)} {cs : List HV} {f : Nat → M α} {H : Heap} {n : Nat} {r : α × Heap} (h : app (nwO t cs f) H n = some r) : app (f H.n) (H.pushT t (.cells cs false)) n = some r := h
theorem new_ok {esc : Nat → Bool} {t : Option (Nat × Option Nat)} {cs : List HV} {c : Array Value} {el : TypeId} (hI : Inv E P I0 H0 w0 nt β I H w S a) (h : newD esc t o.dst cs S K H n = some r) (ht : ∀ e s, t = some (e, s) → el = e ∧ ∀ k, s = some k → c.size = k)
  (hr : VRs I cs c.toList) (h1 : ∀ v ∈ c.toList, v.oneCell' = true) (hrun : (execOp a.eval o).run P w = .ok (.value (.pointer (some ⟨w.heap.size, 0, none⟩))) (w.alloc (.cells c el)))
  (hk : Kont E P I0 H0 w0 nt K n r a o.dst next) : o.wpIn (FW ro) 0 P a w next Q := by
 replace h : app (newD esc t o.dst cs S K) H n = some r := h
 unfold newD at h
 split at h
 ·exact (stk_some h).elim
 ·rename_i dd d ed
  split at h
  ·replace h := nwO_app h
   refine wp_value hrun (hk _ _ _ _ _ _ _ h (hI.heapnewT t el ht hr h1) ?_)
   exact VR.ptr (o := 0) (up_j I H.n w.heap.size c.size)
  ·split at h
   ·exact (stk_some h).elim
   ·rename_i hd
    refine wp_value hrun (hk _ _ _ _ _ _ _ h (hI.boxnew el hd hr h1) ?_)
    exact ⟨by rw [Bx.get_set]; simp, w.heap.size, by simp, rfl⟩
theorem VR.cells {I : Inj} {h : HV} {v : Value} (g : VR I h v) (gt : ∀ l, h ≠ .tup l) : VRs I h.cs v.cells.toList ∧ ∀ x ∈ v.cells.toList, x.oneCell' = true := by
 cases hs : h.sc with
 | true =>
  have h1 : v.oneCell' = true := by rw [g.sc]; exact hs
  have h2 : h.cs = [h] := by cases h <;> first | rfl | cases hs
  rw [cells_of_sc h1, h2]
  exact ⟨.cons g .nil, by simpa using h1⟩
 | false =>
  cases h <;> first | cases hs; done | exact absurd rfl (gt _) | skip
  obtain ⟨l, rfl, h1, h2⟩ := VRs_toList_agg g
  exact ⟨by simpa [Value.cells, HV.cs] using h1, by simpa [Value.cells] using h2⟩
theorem zeroCells_some {t : TypeId} {cs : List HV} (h : zeroCells? P t = some cs) : ∃ i z, P.info? t = some i ∧ i.zero = some z ∧ (∀ I : Inj, VRs I cs z.cells.toList) ∧ ∀ v ∈ z.cells.toList, v.oneCell' = true := by
 unfold zeroCells? at h
 split at h
 ·rename_i i hi
  split at h
  ·rename_i z hz
   split at h
   ·rename_i hv hh
    cases h
    refine ⟨i, z, hi, hz, fun I => ?_, ?_⟩
    ·obtain ⟨g, gt⟩ := ofV_VR (I := I) hh
     exact (g.cells gt).1
    ·obtain ⟨g, gt⟩ := ofV_VR (I := (⟨fun _ => none, fun _ => none⟩ : Inj)) hh
     exact (g.cells gt).2
   ·cases h
  ·cases h
 ·cases h
theorem tyB_some {t : TypeId} {k e : Nat} {s : Option Nat} (h : tyB P t k = some (e, s)) : e = t ∧ s = some k := by
 unfold tyB at h
 split at h
 ·split at h
  ·split at h
   ·cases h; exact ⟨rfl, rfl⟩
   ·cases h
  ·cases h
 ·cases h
theorem alloc_ok {esc : Nat → Bool} {t : TypeId} {cs : List HV} (hI : Inv E P I0 H0 w0 nt β I H w S a) (hz : zeroCells? P t = some cs) (h : newD esc (tyB P t cs.length) o.dst cs S K H n = some r) (ho : o.op = .alloc t)
  (hk : Kont E P I0 H0 w0 nt K n r a o.dst next) : o.wpIn (FW ro) 0 P a w next Q := by
 obtain ⟨i, z, hi, hz', h1, h2⟩ := zeroCells_some hz
 exact new_ok (c := z.cells) (el := t) hI h (fun e s hs => (by
  obtain ⟨rfl, rfl⟩ := tyB_some hs
  exact ⟨rfl, fun k hk => by cases hk; simpa using (h1 I).length⟩)) (h1 I) h2 (by simp [execOp, ho, Instr.alloc, zeroValue, typeInfo, hi, hz', newVar, newRow]) hk
theorem box_ok {esc : Nat → Bool} {t : TypeId} {x : Operand} {hv : HV} (hI : Inv E P I0 H0 w0 nt β I H w S a) (ex : S.ev E x = .v hv) (h : HQ.nt hv (newD esc none o.dst hv.cs S K) H n = some r) (ho : o.op = .box t x)
  (hk : Kont E P I0 H0 w0 nt K n r a o.dst next) : o.wpIn (FW ro) 0 P a w next Q := by
 obtain ⟨h1, h⟩ := nt_some h
 obtain ⟨g1, g2⟩ := (hI.evv ex).cells h1
 exact new_ok (c := (a.eval x).cells) (el := t) hI h (fun _ _ e => by cases e) g1 g2 (by simp [execOp, ho, Instr.box, newVar, newRow]) hk
/-! places -/
theorem nilCheck_ok {x : Operand} (hI : Inv E P I0 H0 w0 nt β I H w S a)
  (h : app (match S.ev E x with
   | .loc d off => K (.loc d off) S
   | .v (.ptr p) => mP p fun b o => K (.v (.ptr (some (b, o)))) S
   | _ => stk) H n = some r) (ho : o.op = .nilCheck x)
  (hk : Kont E P I0 H0 w0 nt K n r a o.dst next) : o.wpIn (FW ro) 0 P a w next Q := by
 have hv := hI.ev x
 split at h
 ·rename_i d off ex
  rw [ex] at hv
  obtain ⟨h0, b, h1, h2⟩ := hv
  exact wp_value (v := a.eval x) (w' := w) (by simp [execOp, ho, h2]) (hk _ _ _ _ _ _ _ h hI ⟨h0, b, h1, h2⟩)
 ·rename_i p ex
  rw [ex] at hv
  obtain ⟨b, oo, rfl, h⟩ := mP_some h
  have hv' : VR I (.ptr (some (b, oo))) (a.eval x) := hv
  generalize hva : a.eval x = va at hv'
  cases hv' with
  | ptr hj => exact wp_value (w' := w) (by simp [execOp, ho, hva]) (hk _ _ _ _ _ _ _ h hI (VR.ptr hj))
 ·exact (stk_some h).elim
theorem fieldAddr_ok {t : TypeId} {x : Operand} {f : Nat} {fs : Array Field} {fd : Field} (hI : Inv E P I0 H0 w0 nt β I H w S a) (hu : P.underlying t = some (.struct fs)) (hf : fs[f]? = some fd)
  (h : app (match Nat.beq (sizeT P fd.type) 0, S.ev E x with
    | false, .loc d off => K (.loc d (off + fd.offset)) S
    | false, .v (.ptr p) => mP p fun b o => K (.v (.ptr (some (b, o + fd.offset)))) S
    | _, _ => stk) H n = some r) (ho : o.op = .fieldAddr t x f)
  (hk : Kont E P I0 H0 w0 nt K n r a o.dst next) : o.wpIn (FW ro) 0 P a w next Q := by
 have hv := hI.ev x
 have hz : Nat.beq (sizeT P fd.type) 0 = false → ∃ i, P.info? fd.type = some i ∧ sizeT P fd.type ≠ 0 := by
  intro hb
  have hne : sizeT P fd.type ≠ 0 := by intro e; rw [e] at hb; simp at hb
  cases e : P.info? fd.type with
  | none => exact absurd (by simp [sizeT, Program.cellsOf, e]) hne
  | some i => exact ⟨i, rfl, hne⟩
 split at h
 ·rename_i d off hb ex
  obtain ⟨i, hi, hne⟩ := hz hb
  rw [ex] at hv
  obtain ⟨h0, b, h1, h2⟩ := hv
  refine wp_value (v := .pointer (some ⟨b, off + fd.offset, none⟩)) (w' := w) ?_ (hk _ _ _ _ _ _ _ h hI ⟨h0, b, h1, rfl⟩)
  simp [execOp, ho, h2, Instr.fieldAt, run_underlying hu, hf, Instr.sureAddr, fieldPlace, run_sizeT hi, hne, add_none]
 ·rename_i p hb ex
  obtain ⟨i, hi, hne⟩ := hz hb
  rw [ex] at hv
  obtain ⟨b, oo, rfl, h⟩ := mP_some h
  have hv' : VR I (.ptr (some (b, oo))) (a.eval x) := hv
  generalize hva : a.eval x = va at hv'
  cases hv' with
  | ptr hj =>
   rename_i b' d
   refine wp_value (v := .pointer (some ⟨b', d + (oo + fd.offset), none⟩)) (w' := w) ?_ (hk _ _ _ _ _ _ _ h hI (VR.ptr hj))
   simp [execOp, ho, hva, Instr.fieldAt, run_underlying hu, hf, Instr.sureAddr, fieldPlace, run_sizeT hi, hne, add_none, Nat.add_assoc]
 ·exact (stk_some h).elim
theorem idx_ok {t : TypeId} {x y : Operand} (hI : Inv E P I0 H0 w0 nt β I H w S a) (h : idxD P t (S.ev E x) (S.ev E y) S K H n = some r) (ho : o.op = .indexAddr t x y)
  (hk : Kont E P I0 H0 w0 nt K n r a o.dst next) : o.wpIn (FW ro) 0 P a w next Q := by
 replace h : app (idxD P t (S.ev E x) (S.ev E y) S K) H n = some r := h
 unfold idxD at h
 split at h
 ·rename_i _ kk i ey
  have hy := hI.evv ey
  generalize hyv : a.eval y = vy at hy
  cases hy
  have hv := hI.ev x
  split at h
  ·rename_i e s hu ex
   rw [ex] at hv
   split at h
   ·rename_i info hi
    obtain ⟨g1, g2, b, oo, hp, h5⟩ := ix_some h
    obtain ⟨p, len, cap, opn⟩ := s
    simp only at hp g2; subst hp
    have hv' : VR I (.sl ⟨some (b, oo), len, cap, opn⟩) (a.eval x) := hv
    generalize hva : a.eval x = va at hv'
    cases hv' with
    | slE => exfalso; simp at g2; omega
    | slO => exfalso; simp at g2; omega
    | sl hj h1 h2 h3 =>
     rename_i b' d cap'
     refine wp_value (v := .pointer (some ⟨b', d + (oo + i.toNat * sizeT P e), none⟩)) (w' := w) ?_ (hk _ _ _ _ _ _ _ h5 hI (VR.ptr hj))
     simp [execOp, ho, hva, hyv, Instr.indexAt, asIntOf, run_underlying hu, g1, g2, run_sizeT hi, add_none, Nat.add_assoc]
   ·exact (stk_some h).elim
  ·rename_i len e d off hu ex
   rw [ex] at hv
   split at h
   ·rename_i info hi
    obtain ⟨g1, h⟩ := gd_some h
    obtain ⟨g2, h⟩ := gd_some h
    have g1 : 0 ≤ i := by simpa using g1
    have g2 : i < (len : Int) := by simpa using g2
    obtain ⟨h0, b, h1, h2⟩ := hv
    refine wp_value (v := .pointer (some ⟨b, off + i.toNat * sizeT P e, none⟩)) (w' := w) ?_ (hk _ _ _ _ _ _ _ h hI ⟨h0, b, h1, rfl⟩)
    simp [execOp, ho, h2, hyv, Instr.indexAt, asIntOf, run_underlying hu, Instr.sureAddr, g1, g2, run_sizeT hi, add_none]
   ·exact (stk_some h).elim
  ·rename_i len e p hu ex
   rw [ex] at hv
   split at h
   ·rename_i info hi
    obtain ⟨b, oo, rfl, h⟩ := mP_some h
    obtain ⟨g1, h⟩ := gd_some h
    obtain ⟨g2, h⟩ := gd_some h
    have g1 : 0 ≤ i := by simpa using g1
    have g2 : i < (len : Int) := by simpa using g2
    have hv' : VR I (.ptr (some (b, oo))) (a.eval x) := hv
    generalize hva : a.eval x = va at hv'
    cases hv' with
    | ptr hj =>
     rename_i b' d
     refine wp_value (v := .pointer (some ⟨b', d + (oo + i.toNat * sizeT P e), none⟩)) (w' := w) ?_ (hk _ _ _ _ _ _ _ h hI (VR.ptr hj))
     simp [execOp, ho, hva, hyv, Instr.indexAt, asIntOf, run_underlying hu, Instr.sureAddr, g1, g2, run_sizeT hi, add_none, Nat.add_assoc]
   ·exact (stk_some h).elim
  ·exact (stk_some h).elim
 ·exact (stk_some h).elim
theorem run_part_ok {I : Inj} {t : TypeId} {cs : List HV} {l : List Value} {off : Nat} {hv : HV} (hr : VRs I cs l) (h1 : ∀ v ∈ l, v.oneCell' = true)
  (h : (agOf P t = some true ∧ off + sizeT P t ≤ cs.length ∧ hv = .agg ((cs.drop off).take (sizeT P t))) ∨ (agOf P t = some false ∧ cs[off]? = some hv)) (w : World) :
  ∃ v, (part t l.toArray off).run P w = .ok v w ∧ VR I hv v := by
 rcases h with ⟨e, g1, rfl⟩ | ⟨e, g1⟩
 ·obtain ⟨d, i, hu, hi, hag⟩ := agOf_some e
  refine ⟨.agg ((l.drop off).take (sizeT P t)).toArray, ?_, VR.agg ?_ ?_⟩
  ·simp only [part, Sem.run_bind, hag, Result.andThen_ok, if_true, run_sizeT hi, Sem.run_pure]
   congr 2
   apply Array.ext'
   simp
  ·have hl := hr.length
   refine VRs.of_get (by simp; omega) fun j p q q1 q2 => ?_
   rw [List.getElem?_take] at q1 q2
   split at q1
   ·rename_i hj
    rw [if_pos hj] at q2
    rw [List.getElem?_drop] at q1 q2
    obtain ⟨u, u1, u2⟩ := hr.get q1
    rw [q2] at u1; cases u1; exact u2
   ·cases q1
  ·intro v hv; exact h1 v (List.mem_of_mem_drop (List.mem_of_mem_take hv))
 ·obtain ⟨d, i, hu, hi, hag⟩ := agOf_some e
  obtain ⟨u, u1, u2⟩ := hr.get g1
  refine ⟨u, ?_, u2⟩
  simp [part, hag, u1]
theorem partA_app {α : Type} {t : TypeId} {cs : List HV} {off : Nat} {K : HV → M α} {r : α × Heap} (h : partA P t cs off K H n = some r) :
  ∃ hv, ((agOf P t = some true ∧ off + sizeT P t ≤ cs.length ∧ hv = .agg ((cs.drop off).take (sizeT P t))) ∨ (agOf P t = some false ∧ cs[off]? = some hv)) ∧ app (K hv) H n = some r := by
 rcases partA_some h with ⟨e, h1, h2⟩ | ⟨e, v, h1, h2⟩
 ·exact ⟨_, .inl ⟨e, h1, rfl⟩, h2⟩
 ·exact ⟨v, .inr ⟨e, h1⟩, h2⟩
theorem field_ok {t : TypeId} {x : Operand} {f : Nat} {fs : Array Field} {fd : Field} {cs : List HV} (hI : Inv E P I0 H0 w0 nt β I H w S a) (hu : P.underlying t = some (.struct fs)) (hf : fs[f]? = some fd) (ex : S.ev E x = .v (.agg cs))
  (h : partA P fd.type cs fd.offset (fun v => K (.v v) S) H n = some r) (ho : o.op = .field t x f)
  (hk : Kont E P I0 H0 w0 nt K n r a o.dst next) : o.wpIn (FW ro) 0 P a w next Q := by
 obtain ⟨l, hl, h1, h2⟩ := VRs_toList_agg (hI.evv ex)
 obtain ⟨hv, g1, h⟩ := partA_app h
 obtain ⟨v, q1, q2⟩ := run_part_ok h1 h2 g1 w
 exact wp_value (v := v) (w' := w) (by simp [execOp, ho, hl, Instr.field, run_underlying hu, hf, asAgg, q1]) (hk _ _ _ _ _ _ _ h hI q2)
theorem index_ok {t : TypeId} {x y : Operand} (hI : Inv E P I0 H0 w0 nt β I H w S a)
  (h : app (match P.underlying t, S.ev E x, S.ev E y with
  | some (.array n e), .v (.agg cs), .v (.int _ i) => gd (decide (0 ≤ i)) (gd (decide (i < (n : Int))) (partA P e cs (i.toNat * sizeT P e) fun v => K (.v v) S))
  | some .string, .v (.str s), .v (.int _ i) => gd (decide (0 ≤ i)) (gd (decide (i < (s.size : Int))) (K (.v (.int .u8 ((s.data[i.toNat]?.getD 0).toNat : Int))) S))
  | _, _, _ => stk) H n = some r) (ho : o.op = .index t x y)
  (hk : Kont E P I0 H0 w0 nt K n r a o.dst next) : o.wpIn (FW ro) 0 P a w next Q := by
 split at h
 ·rename_i len e cs kk i hu ex ey
  obtain ⟨g1, h⟩ := gd_some h
  obtain ⟨g2, h⟩ := gd_some h
  have g1 : 0 ≤ i := by simpa using g1
  have g2 : i < (len : Int) := by simpa using g2
  obtain ⟨l, hl, h1, h2⟩ := VRs_toList_agg (hI.evv ex)
  have hy := hI.evv ey
  generalize hyv : a.eval y = vy at hy
  cases hy
  obtain ⟨hv, g3, h⟩ := partA_app h
  obtain ⟨v, q1, q2⟩ := run_part_ok h1 h2 g3 w
  have hi : ∃ inf, P.info? e = some inf := by
   rcases g3 with ⟨ea, _⟩ | ⟨ea, _⟩ <;> (obtain ⟨_, inf, _, hi, _⟩ := agOf_some ea; exact ⟨inf, hi⟩)
  obtain ⟨inf, hi⟩ := hi
  exact wp_value (v := v) (w' := w) (by simp [execOp, ho, hl, hyv, Instr.index, asIntOf, run_underlying hu, g1, g2, run_sizeT hi, q1]) (hk _ _ _ _ _ _ _ h hI q2)
 ·rename_i s kk i hu ex ey
  obtain ⟨g1, h⟩ := gd_some h
  obtain ⟨g2, h⟩ := gd_some h
  have g1 : 0 ≤ i := by simpa using g1
  have g2 : i < (s.size : Int) := by simpa using g2
  have hx := hI.evv ex
  generalize hxv : a.eval x = vx at hx
  cases hx
  have hy := hI.evv ey
  generalize hyv : a.eval y = vy at hy
  cases hy
  have hlt : i.toNat < s.size := by omega
  have e1 : s[i.toNat]? = some (s.data[i.toNat]?.getD 0) := by
   rw [getElem?_pos s i.toNat hlt]
   have hd : i.toNat < s.data.size := hlt
   rw [Array.getElem?_eq_getElem hd]; rfl
  exact wp_value (v := .int .u8 ((s.data[i.toNat]?.getD 0).toNat : Int)) (w' := w) (by simp [execOp, ho, hxv, hyv, Instr.index, asIntOf, run_underlying hu, g1, e1]) (hk _ _ _ _ _ _ _ h hI (VR.int _ _))
 ·exact (stk_some h).elim
end
end Go.Proofs.YtbphjihgbenkdaaGreat.HQ
