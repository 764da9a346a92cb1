/- Lemmas for the row. Conditions: none. -/
import Derived.Test.YtbphjihgbenkdaaGreatHQE
namespace Go.Proofs.YtbphjihgbenkdaaGreat.HQ
set_option linter.unusedVariables false
set_option linter.unusedSectionVars false
set_option linter.unusedSimpArgs false
open Go
set_option linter.unusedSectionVars false
variable [Sites]
section
variable {E : Env} {P : Program} {I0 : Inj} {H0 : Heap} {w0 : World} {nt : Cx} {β : Nat → Option Nat} {I : Inj} {H : Heap} {w : World} {S : St} {a : Act}
variable {K : SV → St → M Leaf} {n : Nat} {r : Leaf × Heap} {next : Act → World → Prop} {Q : Exit → Act → World → Prop} {o : Oper} {ro : Option Nat}
theorem partA_some {α : Type} {t : TypeId} {cs : List HV} {off : Nat} {K : HV → M α} {r : α × Heap} (h : partA P t cs off K H n = some r) :
  (agOf P t = some true ∧ off + sizeT P t ≤ cs.length ∧ K (.agg ((cs.drop off).take (sizeT P t))) H n = some r) ∨
  (agOf P t = some false ∧ ∃ v, cs[off]? = some v ∧ K v H n = some r) := by
 replace h : app (partA P t cs off K) H n = some r := h
 unfold partA at h
 split at h
 ·rename_i e; obtain ⟨h1, h2⟩ := gxN_some h; exact .inl ⟨e, h1, Sh1.d_some h2⟩
 ·rename_i e; obtain ⟨v, h1, h2⟩ := gx_some h; exact .inr ⟨e, v, h1, Sh1.d_some h2⟩
 ·exact (stk_some h).elim
theorem box_cells {I : Inj} {cs : List HV} {c : Array Value} (h : VRs I cs c.toList) (h1 : ∀ v ∈ c.toList, v.oneCell' = true) (i : Nat) (x : HV) (e : cs[i]? = some x) : ∃ v, c[i]? = some v ∧ VC I x v := by
 obtain ⟨v, g1, g2⟩ := h.get e
 rw [Array.getElem?_toList] at g1
 exact ⟨v, g1, g2, by rw [← g2.sc]; exact h1 v (by rw [Array.mem_toList_iff]; exact Array.mem_of_getElem? g1)⟩
theorem box_cells0 {I : Inj} {cs : List HV} {c : Array Value} (h : VRs I cs c.toList) (h1 : ∀ v ∈ c.toList, v.oneCell' = true) (i : Nat) (x : HV) (e : cs[i]? = some x) : ∃ v, c[0 + i]? = some v ∧ VC I x v := by
 rw [Nat.zero_add]; exact box_cells h h1 i x e
theorem load_ok {t : TypeId} {x : Operand} (hI : Inv E P I0 H0 w0 nt β I H w S a) (h : loadD P t (S.ev E x) S K H n = some r) (ho : o.op = .load t x)
  (hk : Kont E P I0 H0 w0 nt K n r a o.dst next) : o.wpIn (FW ro) 0 P a w next Q := by
 replace h : app (loadD P t (S.ev E x) S K) H n = some r := h
 unfold loadD at h
 split at h
 ·rename_i d off ev
  split at h
  ·rename_i cs eb
   have hv := hI.ev x; rw [ev] at hv
   obtain ⟨_, b, hb, hv⟩ := hv
   obtain ⟨b2, c, el, h1, h2, h3, h4⟩ := hI.br.box d cs eb
   rw [hb] at h1; cases h1
   rcases partA_some h with ⟨e, h5, h6⟩ | ⟨e, v, h5, h6⟩
   ·obtain ⟨l, g1, g2, g3, g4⟩ := cells_slice (d := 0) (box_cells0 h3 h4) h5
    have hl := run_loadVar_ag (w := w) (A := ⟨b, off, none⟩) e g1 (fun j v hj => by rw [add_none, cell_of h2]; simpa using g4 j v hj)
    exact wp_value (v := .agg l.toArray) (w' := w) (by simp [execOp, ho, hv, Instr.loadAt, Instr.sureAddr, hl]) (hk _ _ _ _ _ _ _ h6 hI (VR.agg g2 g3))
   ·obtain ⟨u, g1, g2⟩ := box_cells h3 h4 off v h5
    have hl := run_loadVar_sc (w := w) (A := ⟨b, off, none⟩) e (by rw [cell_of h2]; exact g1)
    exact wp_value (v := u) (w' := w) (by simp [execOp, ho, hv, Instr.loadAt, Instr.sureAddr, hl]) (hk _ _ _ _ _ _ _ h6 hI g2.1)
  ·exact (stk_some h).elim
 ·rename_i p ev
  obtain ⟨hb, ho', rfl, h⟩ := mP_some h
  have hv := hI.evv ev
  generalize hva : a.eval x = va at hv
  cases hv with
  | ptr hj =>
   rename_i b' d
   split at h
   ·rename_i e
    obtain ⟨cs, ro, g1, g2, g3⟩ := ldN_some h
    obtain ⟨c, el, fr, q1, q2, _⟩ := hI.rel.obj hb b' d cs ro hj g1
    obtain ⟨l, p1, p2, p3, p4⟩ := cells_slice q2 g2
    have hl := run_loadVar_ag (w := w) (A := ⟨b', d + ho', none⟩) e p1 (fun j v hj => by rw [add_none, cell_of q1]; exact p4 j v hj)
    exact wp_value (v := .agg l.toArray) (w' := w) (by simp [execOp, ho, hva, Instr.loadAt, Instr.sureAddr, hl]) (hk _ _ _ _ _ _ _ (Sh1.d_some g3) hI (VR.agg p2 p3))
   ·rename_i e
    obtain ⟨cs, ro, v, g1, g2, g3⟩ := ldC_some h
    obtain ⟨c, el, fr, q1, q2, _⟩ := hI.rel.obj hb b' d cs ro hj g1
    obtain ⟨u, p1, p2⟩ := q2 _ _ g2
    have hl := run_loadVar_sc (w := w) (A := ⟨b', d + ho', none⟩) e (by rw [cell_of q1]; exact p1)
    exact wp_value (v := u) (w' := w) (by simp [execOp, ho, hva, Instr.loadAt, Instr.sureAddr, hl]) (hk _ _ _ _ _ _ _ (Sh1.d_some g3) hI p2.1)
   ·exact (stk_some h).elim
 ·exact (stk_some h).elim
/-! stores -/
theorem putN_get {cs vs : List HV} {o i : Nat} (h : o + vs.length ≤ cs.length) : (putN cs o vs)[i]? = if o ≤ i ∧ i < o + vs.length then vs[i - o]? else cs[i]? := by
 unfold putN
 rw [List.append_assoc]
 by_cases h1 : i < o
 ·rw [List.getElem?_append_left (by simp; omega), if_neg (by omega), List.getElem?_take, if_pos h1]
 ·rw [List.getElem?_append_right (by simp; omega)]
  simp only [List.length_take, Nat.min_eq_left (show o ≤ cs.length by omega)]
  by_cases h2 : i < o + vs.length
  ·rw [List.getElem?_append_left (by omega), if_pos (by omega)]
  ·rw [List.getElem?_append_right (by omega), if_neg (by omega), List.getElem?_drop]
   congr 1; omega
theorem putN_length {cs vs : List HV} {o : Nat} (h : o + vs.length ≤ cs.length) : (putN cs o vs).length = cs.length := by
 simp [putN]; omega
theorem Inv.boxput (hI : Inv E P I0 H0 w0 nt β I H w S a) {d b : Nat} {cs cs2 : List HV} (eb : S.B.get d = some cs) (hb : β d = some b)
  {c c2 : Array Value} {el : TypeId} {w' : World} (h2 : w.heap[b]? = some (.cells c el (0, 0))) (hs : c2.size = c.size) (hw : w'.heap[b]? = some (.cells c2 el (0, 0)))
  (hn : ∀ x, x ≠ b → w'.heap[x]? = w.heap[x]?) (hsz : w'.heap.size = w.heap.size) (hext : w'.os = w.os ∧ w'.output = w.output) (hr : VRs I cs2 c2.toList) (h1 : ∀ v ∈ c2.toList, v.oneCell' = true) :
  Inv E P I0 H0 w0 nt β I H w' { S with B := .set d cs2 S.B } a where
 step := {
  ext := ⟨hext.1.trans hI.step.ext.1, hext.2.trans hI.step.ext.2⟩
  le := hI.step.le
  n := hI.step.n
  size := by rw [hsz]; exact hI.step.size
  keep := by
   intro x hx hnx hnl
   have hbx : x ≠ b := by
    have := hI.fresh d b (by simp [eb]) hb
    omega
   rw [hn x hbx]; exact hI.step.keep x hx hnx hnl
  img1 := hI.step.img1
  img2 := hI.step.img2
  img3 := hI.step.img3
  lp := fun x r h => let ⟨r2, h3⟩ := hI.step.lp x r h; ⟨r2, by rw [hn x (fun hh => by rw [hh, h2] at h3; cases h3)]; exact h3⟩ }
 rel := {
  bnd := hI.rel.bnd
  img := fun x b' e he => by rw [hsz]; exact hI.rel.img x b' e he
  obj := by
   intro x b' e cs' ro g1 g2
   obtain ⟨c', el', fr, q1, q2⟩ := hI.rel.obj x b' e cs' ro g1 g2
   have : b' ≠ b := fun hh => hI.br.img d b (by simp [eb]) hb x e (hh ▸ g1)
   exact ⟨c', el', fr, by rw [hn _ this]; exact q1, q2⟩
  inj := hI.rel.inj
  sz := by
   intro x s e
   obtain ⟨c', el', fr, q1, q2⟩ := hI.rel.sz x s e
   by_cases hx : x = b
   ·subst hx; rw [h2] at q1; cases q1; exact ⟨c2, el, (0, 0), hw, by rw [hs]; exact q2⟩
   ·exact ⟨c', el', fr, by rw [hn _ hx]; exact q1, q2⟩
  spc := by
   intro x b' e s g1 g2
   obtain ⟨h0, r, q1, q2⟩ := hI.rel.spc x b' e s g1 g2
   have : b' ≠ b := fun hh => hI.br.img d b (by simp [eb]) hb x e (hh ▸ g1)
   exact ⟨h0, r, by rw [hn _ this]; exact q1, q2⟩
  ty := fun _ _ _ _ _ e1 e2 => hI.rel.tyK (CK.one h2 hs hw hn) e1 e2
  sinj := hI.rel.sinj }
 fr := fun t => (hI.fr t).mono (.refl I) (fun _ _ _ h => h) (fun d' h => by rw [Bx.get_set]; split <;> simp_all)
 br := {
  box := by
   intro d' cs' e
   simp only [Bx.get_set] at e
   split at e
   ·rename_i hd; subst hd; cases e; exact ⟨b, c2, el, hb, hw, hr, h1⟩
   ·rename_i hd
    obtain ⟨b3, c3, el3, q1, q2, q3⟩ := hI.br.box d' cs' e
    have : b3 ≠ b := fun hh => hd (hI.br.inj d' d b (by simp [e]) (by simp [eb]) (hh ▸ q1) hb)
    exact ⟨b3, c3, el3, q1, by rw [hn _ this]; exact q2, q3⟩
  inj := by
   intro d1 d2 b3 e1 e2 q1 q2
   have f : ∀ d', (Bx.set d cs2 S.B).get d' ≠ none → S.B.get d' ≠ none := by
    intro d' e; rw [Bx.get_set] at e; split at e
    ·rename_i hd; subst hd; simp [eb]
    ·exact e
   exact hI.br.inj d1 d2 b3 (f _ e1) (f _ e2) q1 q2
  img := by
   intro d' b3 e q x y
   have : S.B.get d' ≠ none := by
    rw [Bx.get_set] at e; split at e
    ·rename_i hd; subst hd; simp [eb]
    ·exact e
   exact hI.br.img d' b3 this q x y }
 fresh := by
  intro d' b3 e q
  have : S.B.get d' ≠ none := by
   rw [Bx.get_set] at e; split at e
   ·rename_i hd; subst hd; simp [eb]
   ·exact e
  exact hI.fresh d' b3 this q
 gl := hI.gl
 sz := hI.sz
 anc := hI.anc
 defers := hI.defers.of fun D q1 q2 => ⟨hn D (fun hh => by rw [hh, h2] at q1; cases q1), q2⟩
theorem Inv.heapput (hI : Inv E P I0 H0 w0 nt β I H w S a) {I' : Inj} {H' : Heap} {w' : World} (hs : Step I H w I' H' w') (hr : Rel I' H' w') : Inv E P I0 H0 w0 nt β I' H' w' S a where
 step := hI.step.trans hs
 rel := hr
 fr := fun t => (hI.fr t).mono hs.le (fun _ _ _ h => h) (fun _ h => h)
 br := hI.br.step hs
 fresh := hI.fresh
 gl := fun g hb e => hs.le.j _ _ (hI.gl g hb e)
 sz := hI.sz
 anc := fun b hb => let ⟨h1, h2, h3, h4⟩ := hI.anc b hb; ⟨h1, h2, h3, h4.trans hs.le⟩
 defers := hI.defers.step hs
theorem VRs_toList_agg {I : Inj} {cs : List HV} {v : Value} (h : VR I (.agg cs) v) : ∃ l : List Value, v = .agg l.toArray ∧ VRs I cs l ∧ ∀ x ∈ l, x.oneCell' = true := by
 cases h with | agg a b => exact ⟨_, rfl, a, b⟩
theorem cells_of_sc {v : Value} (h : v.oneCell' = true) : v.cells = #[v] := by cases v <;> first | rfl | cases h
theorem store_ok {t : TypeId} {x y : Operand} (hI : Inv E P I0 H0 w0 nt β I H w S a) (h : storeD P t (S.ev E x) (S.ev E y) S K H n = some r) (ho : o.op = .store t x y)
  (hk : Kont E P I0 H0 w0 nt K n r a o.dst next) : o.wpIn (FW ro) 0 P a w next Q := by
 replace h : app (storeD P t (S.ev E x) (S.ev E y) S K) H n = some r := h
 unfold storeD at h
 split at h
 ·rename_i _ yv ey
  have hy := hI.evv ey
  split at h
  ·rename_i eag
   obtain ⟨dd, i, hu, hi, _⟩ := agOf_some eag
   split at h
   ·rename_i l
    obtain ⟨lv, hlv, hl1, hl2⟩ := VRs_toList_agg hy
    have hlen : lv.length = l.length := hl1.length
    split at h
    ·rename_i d off ex
     split at h
     ·rename_i cs eb
      obtain ⟨g1, h⟩ := gd_some h
      obtain ⟨g2, h⟩ := gd_some h
      have g1 : l.length = sizeT P t := Nat.eq_of_beq_eq_true g1
      have g2 : off + l.length ≤ cs.length := Nat.le_of_ble_eq_true g2
      have hv := hI.ev x; rw [ex] at hv
      obtain ⟨_, b, hb, hv⟩ := hv
      obtain ⟨b2, c, el, h1, h2, h3, h4⟩ := hI.br.box d cs eb
      rw [hb] at h1; cases h1
      have hcs : c.size = cs.length := by have := h3.length; simpa using this
      have hst := run_storeVar_cells (P := P) (w := w) (t := t) (b := b) (off := off) (v := .agg lv.toArray) hi (by simp [Value.cells]; omega) h2 (thaw0 _ _) (by simp [Value.cells]; omega) (by simpa [Value.cells] using hl2)
      simp only [Value.cells, List.toList_toArray] at hst
      obtain ⟨c2, e1, e2, e3⟩ := setCells_eq lv off w c el (0, 0) h2
      refine wp_skip' (w' := w.setCells b off lv) (by simp [execOp, ho, hv, hlv, Instr.storeAt, Instr.sureAddr, hst]) (hk _ _ _ _ _ _ _ h (hI.boxput eb hb h2 e2 e1 (fun z hz => setCells_ne lv off w z hz) (setCells_size lv off w) (setCells_ext lv off w) ?_ ?_) trivial)
      ·refine VRs.of_get (by rw [putN_length g2]; simp; omega) fun j p q q1 q2 => ?_
       rw [Array.getElem?_toList] at q2
       have hj : j < c.size := by have := (Array.getElem?_eq_some_iff.1 q2).1; omega
       rw [e3 j hj] at q2
       rw [putN_get g2] at q1
       by_cases hin : off ≤ j ∧ j < off + l.length
       ·rw [if_pos hin] at q1; rw [if_pos (by omega)] at q2
        obtain ⟨u, u1, u2⟩ := hl1.get q1
        rw [q2] at u1; cases u1; exact u2
       ·rw [if_neg hin] at q1; rw [if_neg (by omega)] at q2
        obtain ⟨u, u1, u2⟩ := h3.get q1
        rw [Array.getElem?_toList, q2] at u1; cases u1; exact u2
      ·intro v hv
       rw [Array.mem_toList_iff] at hv
       obtain ⟨j, hj, hjv⟩ := Array.getElem_of_mem hv
       have q2 : c2[j]? = some v := by rw [Array.getElem?_eq_getElem hj, hjv]
       rw [e3 j (by omega)] at q2
       split at q2
       ·exact hl2 v (List.mem_of_getElem? q2)
       ·exact h4 v (by rw [Array.mem_toList_iff]; exact Array.mem_of_getElem? q2)
     ·exact (stk_some h).elim
    ·rename_i p ex
     obtain ⟨hb, ho', rfl, h⟩ := mP_some h
     obtain ⟨g1, h⟩ := gd_some h
     have g1 : l.length = sizeT P t := Nat.eq_of_beq_eq_true g1
     obtain ⟨cs, g2, g3, h⟩ := stN_some h
     have hv := hI.evv ex
     generalize hva : a.eval x = va at hv
     cases hv with
     | ptr hj =>
      rename_i b' d
      obtain ⟨c, el, fr, q1, q2, q3⟩ := hI.rel.obj hb b' d cs false hj g2
      obtain ⟨rfl, hfr⟩ := q3 rfl
      simp only [Nat.zero_add] at q2
      have hcs : cs.length ≤ c.size := by
       rcases Nat.lt_or_ge c.size cs.length with hlt | hge
       ·obtain ⟨u, u1, _⟩ := q2 c.size _ (List.getElem?_eq_getElem hlt)
        simp at u1
       ·exact hge
      have hst := run_storeVar_cells (P := P) (w := w) (t := t) (b := b') (off := ho') (v := .agg lv.toArray) hi (by simp [Value.cells]; omega) q1 hfr (by simp [Value.cells]; omega) (by simpa [Value.cells] using hl2)
      simp only [Value.cells, List.toList_toArray] at hst
      obtain ⟨c2, e1, e2, e3⟩ := setCells_eq lv ho' w c el fr q1
      have hrel : Rel I (H.set hb (.cells (putN cs ho' l) false)) (w.setCells b' ho' lv) := hI.rel.put hj g2 q1 e2 e1 (fun z hz => setCells_ne lv ho' w z hz) (setCells_size lv ho' w) (by
       intro j p hp
       rw [putN_get g3] at hp
       by_cases hin : ho' ≤ j ∧ j < ho' + l.length
       ·rw [if_pos hin] at hp
        obtain ⟨u, u1, u2⟩ := hl1.get hp
        exact ⟨u, by rw [e3 j (by omega), if_pos (by omega)]; exact u1, u2, by rw [← u2.sc]; exact hl2 u (List.mem_of_getElem? u1)⟩
       ·rw [if_neg hin] at hp
        obtain ⟨u, u1, u2⟩ := q2 j p hp
        have : j < c.size := (Array.getElem?_eq_some_iff.1 u1).1
        exact ⟨u, by rw [e3 j this, if_neg (by omega)]; exact u1, u2⟩)
      exact wp_skip' (w' := w.setCells b' ho' lv) (by simp [execOp, ho, hva, hlv, Instr.storeAt, Instr.sureAddr, hst])
       (hk _ _ _ _ _ _ _ h (hI.heapput (Step.put _ q1 hj g2 (fun z hz => setCells_ne lv ho' w z hz) (setCells_size lv ho' w) (setCells_ext lv ho' w)) hrel) trivial)
    ·exact (stk_some h).elim
   ·exact (stk_some h).elim
  ·rename_i eag
   obtain ⟨dd, i, hu, hi, _⟩ := agOf_some eag
   split at h
   ·rename_i d off ex
    split at h
    ·rename_i cs eb
     obtain ⟨g1, h⟩ := gd_some h
     obtain ⟨g2, h⟩ := gd_some h
     obtain ⟨g3, h⟩ := sc1_some h
     have g1 : 1 = sizeT P t := Nat.eq_of_beq_eq_true g1
     have g2 : off < cs.length := by simpa using g2
     have hv := hI.ev x; rw [ex] at hv
     obtain ⟨_, b, hb, hv⟩ := hv
     obtain ⟨b2, c, el, h1, h2, h3, h4⟩ := hI.br.box d cs eb
     rw [hb] at h1; cases h1
     have hcs : c.size = cs.length := by have := h3.length; simpa using this
     have hone : (a.eval y).oneCell' = true := by rw [hy.sc]; exact g3
     have hce := cells_of_sc hone
     have hst := run_storeVar_cells (P := P) (w := w) (t := t) (b := b) (off := off) (v := a.eval y) hi (by rw [hce]; exact g1) h2 (thaw0 _ _) (by rw [hce]; simp; omega) (by rw [hce]; simpa using hone)
     rw [hce] at hst
     obtain ⟨c2, e1, e2, e3⟩ := setCells_eq [a.eval y] off w c el (0, 0) h2
     refine wp_skip' (w' := w.setCells b off [a.eval y]) (by simp [execOp, ho, hv, Instr.storeAt, Instr.sureAddr, hst]) (hk _ _ _ _ _ _ _ h (hI.boxput eb hb h2 e2 e1 (fun z hz => setCells_ne _ off w z hz) (setCells_size _ off w) (setCells_ext _ off w) ?_ ?_) trivial)
     ·refine VRs.of_get (by simp; omega) fun j p q q1 q2 => ?_
      rw [Array.getElem?_toList] at q2
      have hj : j < c.size := by have := (Array.getElem?_eq_some_iff.1 q2).1; omega
      rw [e3 j hj] at q2
      rw [List.getElem?_set] at q1
      by_cases hin : off = j
      ·subst hin
       rw [if_pos rfl, if_pos g2] at q1; cases q1
       rw [if_pos (by simp)] at q2
       simp at q2; subst q2; exact hy
      ·rw [if_neg hin] at q1; rw [if_neg (by simp; omega)] at q2
       obtain ⟨u, u1, u2⟩ := h3.get q1
       rw [Array.getElem?_toList, q2] at u1; cases u1; exact u2
     ·intro v hv
      rw [Array.mem_toList_iff] at hv
      obtain ⟨j, hj, hjv⟩ := Array.getElem_of_mem hv
      have q2 : c2[j]? = some v := by rw [Array.getElem?_eq_getElem hj, hjv]
      rw [e3 j (by omega)] at q2
      split at q2
      ·have := List.mem_of_getElem? q2; simp at this; subst this; exact hone
      ·exact h4 v (by rw [Array.mem_toList_iff]; exact Array.mem_of_getElem? q2)
    ·exact (stk_some h).elim
   ·rename_i p ex
    obtain ⟨hb, ho', rfl, h⟩ := mP_some h
    obtain ⟨g1, h⟩ := gd_some h
    have g1 : 1 = sizeT P t := Nat.eq_of_beq_eq_true g1
    obtain ⟨cs, g2, g3, g4, h⟩ := stC_some h
    have hv := hI.evv ex
    generalize hva : a.eval x = va at hv
    cases hv with
    | ptr hj =>
     rename_i b' d
     obtain ⟨c, el, fr, q1, q2, q3⟩ := hI.rel.obj hb b' d cs false hj g2
     obtain ⟨rfl, hfr⟩ := q3 rfl
     simp only [Nat.zero_add] at q2
     obtain ⟨u0, u1, _⟩ := q2 ho' _ (List.getElem?_eq_getElem g3)
     have hcs : ho' < c.size := (Array.getElem?_eq_some_iff.1 u1).1
     have hone : (a.eval y).oneCell' = true := by rw [hy.sc]; exact g4
     have hce := cells_of_sc hone
     have hst := run_storeVar_cells (P := P) (w := w) (t := t) (b := b') (off := ho') (v := a.eval y) hi (by rw [hce]; exact g1) q1 hfr (by rw [hce]; simp; omega) (by rw [hce]; simpa using hone)
     rw [hce] at hst
     obtain ⟨c2, e1, e2, e3⟩ := setCells_eq [a.eval y] ho' w c el fr q1
     have hrel : Rel I (H.set hb (.cells (cs.set ho' yv) false)) (w.setCells b' ho' [a.eval y]) := hI.rel.put hj g2 q1 e2 e1 (fun z hz => setCells_ne _ ho' w z hz) (setCells_size _ ho' w) (by
      intro j p hp
      rw [List.getElem?_set] at hp
      by_cases hin : ho' = j
      ·subst hin
       rw [if_pos rfl, if_pos g3] at hp; cases hp
       exact ⟨a.eval y, by rw [e3 _ hcs, if_pos (by simp)]; simp, hy, g4⟩
      ·rw [if_neg hin] at hp
       obtain ⟨u, u1, u2⟩ := q2 j p hp
       have : j < c.size := (Array.getElem?_eq_some_iff.1 u1).1
       exact ⟨u, by rw [e3 j this, if_neg (by simp; omega)]; exact u1, u2⟩)
     exact wp_skip' (w' := w.setCells b' ho' [a.eval y]) (by simp [execOp, ho, hva, Instr.storeAt, Instr.sureAddr, hst])
      (hk _ _ _ _ _ _ _ h (hI.heapput (Step.put _ q1 hj g2 (fun z hz => setCells_ne _ ho' w z hz) (setCells_size _ ho' w) (setCells_ext _ ho' w)) hrel) trivial)
   ·exact (stk_some h).elim
  ·exact (stk_some h).elim
 ·exact (stk_some h).elim
end
end Go.Proofs.YtbphjihgbenkdaaGreat.HQ
