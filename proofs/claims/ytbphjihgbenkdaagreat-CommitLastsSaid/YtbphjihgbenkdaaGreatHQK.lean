/- Lemmas for the row. Conditions: none. -/
import Derived.Test.YtbphjihgbenkdaaGreatHQJ
import Derived.Laws.AppendOwn
import Derived.Laws.BytesString
namespace Go.Proofs.YtbphjihgbenkdaaGreat.HQ
set_option linter.unusedVariables false
set_option linter.unusedSectionVars false
set_option linter.unusedSimpArgs false
open Go
set_option linter.unusedSectionVars false
variable [Sites]
section
variable {E : Env} {P : Program} {I0 : Inj} {H0 : Heap} {w0 : World} {nt : Cx} {β : Nat → Option Nat} {I : Inj} {H : Heap} {w : World} {S : St} {a : Act}
variable {K : SV → St → M Leaf} {n : Nat} {r : Leaf × Heap} {next : Act → World → Prop} {Q : Exit → Act → World → Prop} {o : Oper} {ro : Option Nat}
theorem rdS_some {α : Type} {s : Sl} {sz : Nat} {f : List HV → M α} {r : α × Heap} (h : rdS s sz f H n = some r) :
  (s.p = none ∧ s.len = 0 ∧ app (f []) H n = some r) ∨
  ∃ b o cs ro, s.p = some (b, o) ∧ H.get b = .cells cs ro ∧ o + s.len * sz ≤ cs.length ∧ app (f ((cs.drop o).take (s.len * sz))) H n = some r := by
 replace h : app (rdS s sz f) H n = some r := h
 unfold rdS at h
 split at h
 ·rename_i hp
  obtain ⟨h1, h⟩ := gd_some h
  exact .inl ⟨hp, by simpa using h1, h⟩
 ·rename_i b o hp
  obtain ⟨cs, ro, g1, g2, h⟩ := ldN_some h
  exact .inr ⟨b, o, cs, ro, hp, g1, g2, h⟩
theorem slice_cells (hR : Rel I H w) {s : Sl} {v : Value} (hv : VR I (.sl s) v) {sz : Nat} {vs : List HV}
  (h : (s.p = none ∧ s.len = 0 ∧ vs = []) ∨ ∃ b o cs ro, s.p = some (b, o) ∧ H.get b = .cells cs ro ∧ o + s.len * sz ≤ cs.length ∧ vs = (cs.drop o).take (s.len * sz)) :
  ∃ news : List Value, VRs I vs news ∧ (∀ x ∈ news, x.oneCell' = true) ∧ (∀ w, (Builtin.lenOf v).run P w = .ok s.len w) ∧
   ∀ w', (∀ A, w'.cell? A = w.cell? A) → (Builtin.firstCells sz s.len v).run P w' = .ok news.toArray w' := by
 obtain ⟨p, len, cap, opn⟩ := s
 rcases h with ⟨h1, h2, rfl⟩ | ⟨b, o, cs, ro, h1, h2, h3, rfl⟩
 ·simp only at h1 h2; subst h1; subst h2
  cases hv
  exact ⟨[], .nil, by simp, fun w => by simp [Builtin.lenOf], fun w' _ => by simp [Builtin.firstCells]⟩
 ·simp only at h1 h3; subst h1
  cases hv with
  | @slE _ _ A => exact ⟨[], by simp; exact .nil, by simp, fun w => by simp [Builtin.lenOf], fun w' _ => by
    have := run_loadCells_list (P := P) w' A [] (by simp)
    simpa [Builtin.firstCells] using this⟩
  | @slO _ _ _ A => exact ⟨[], by simp; exact .nil, by simp, fun w => by simp [Builtin.lenOf], fun w' _ => by
    have := run_loadCells_list (P := P) w' A [] (by simp)
    simpa [Builtin.firstCells] using this⟩
  | sl hj g1 g2 g3 =>
   rename_i b' d cap'
   obtain ⟨c, el, fr, q1, q2, _⟩ := hR.obj b b' d cs ro hj h2
   obtain ⟨l, p1, p2, p3, p4⟩ := cells_slice q2 h3
   refine ⟨l, p2, p3, fun w => by simp [Builtin.lenOf], fun w' hw' => ?_⟩
   exact run_firstCells_some w' sz len _ len cap' l p1 (fun j v hj => by rw [hw', add_none, cell_of q1]; exact p4 j v hj)
theorem tail_some {sz : Nat} {x : Operand} {K : Nat → List HV → M Leaf} (hI : Inv E P I0 H0 w0 nt β I H w S a) (h : tailD sz (S.ev E x) S K H n = some r) :
  ∃ m vs, app (K m vs) H n = some r ∧ (vs.length = m * sz → ∃ news : List Value, VRs I vs news ∧ (∀ x ∈ news, x.oneCell' = true) ∧ (∀ w, (Builtin.lenOf (a.eval x)).run P w = .ok m w) ∧
   ∀ w', (∀ A, w'.cell? A = w.cell? A) → (Builtin.firstCells sz m (a.eval x)).run P w' = .ok news.toArray w') := by
 replace h : app (tailD sz (S.ev E x) S K) H n = some r := h
 have hv := hI.ev x
 unfold tailD at h
 split at h
 ·rename_i d m ex
  rw [ex] at hv
  obtain ⟨h0, b, hb, hv⟩ := hv
  split at h
  ·rename_i cs eb
   obtain ⟨b2, c, el, h1, h2, h3, h4⟩ := hI.br.box d cs eb
   rw [hb] at h1; cases h1
   refine ⟨m, cs, h, fun hl => ⟨c.toList, h3, h4, fun w => by simp [hv, Builtin.lenOf], fun w' hw' => ?_⟩⟩
   rw [hv]
   refine run_firstCells_some w' sz m _ m m c.toList (by rw [h3.length]; exact hl) (fun j v hj => ?_)
   rw [hw', add_none, cell_of h2]; simpa using hj
  ·exact (stk_some h).elim
 ·rename_i s ex
  rw [ex] at hv
  rcases rdS_some h with ⟨h1, h2, h3⟩ | ⟨b, oo, cs, ro, h1, h2, h3, h4⟩
  ·obtain ⟨news, q1, q2, q3, q4⟩ := slice_cells (P := P) (sz := sz) hI.rel hv (.inl ⟨h1, h2, rfl⟩)
   exact ⟨s.len, [], h3, fun _ => ⟨news, q1, q2, q3, q4⟩⟩
  ·obtain ⟨news, q1, q2, q3, q4⟩ := slice_cells (P := P) (sz := sz) hI.rel hv (.inr ⟨b, oo, cs, ro, h1, h2, h3, rfl⟩)
   exact ⟨s.len, _, h4, fun _ => ⟨news, q1, q2, q3, q4⟩⟩
 ·exact (stk_some h).elim
theorem bytesH_vr {I : Inj} : ∀ {vs : List HV} {ns : List Int} {l : List Value}, bytesH vs = some ns → VRs I vs l → l = ns.map (Value.int .u8)
 | [], ns, l, h, hv => by simp [bytesH] at h; subst h; cases hv; rfl
 | v :: vs, ns, l, h, hv => by
  unfold bytesH at h
  split at h
  ·rename_i e; cases e
  ·rename_i n r e
   cases e
   split at h
   ·rename_i l' hl
    cases h
    cases hv with
    | cons p q => cases p; rw [bytesH_vr hl q]; rfl
   ·cases h
  ·cases h
theorem strM_some {α : Type} {vs : List HV} {f : ByteArray → M α} {H : Heap} {n : Nat} {r : α × Heap} (h : strM vs f H n = some r) : ∃ ns, bytesH vs = some ns ∧ app (f (strB ns)) H n = some r := by
 cases e : bytesH vs with
 | none => unfold strM at h; rw [e] at h; exact (stk_some h).elim
 | some ns => unfold strM at h; rw [e] at h; exact ⟨ns, rfl, h⟩
theorem bytesSrc_some {s d : TypeId} (h : bytesSrc P s d = true) : ∃ e, P.underlying s = some (.slice e) ∧ P.underlying e = some (.int .u8) ∧ P.underlying d = some .string := by
 unfold bytesSrc at h
 split at h
 ·rename_i e h1 h2
  split at h
  ·rename_i h3; exact ⟨e, h1, h3, h2⟩
  ·cases h
 ·cases h
theorem firstCells_slice {p : Option Addr} {l c m : Nat} {news : List Value} (hl : (Builtin.lenOf (.slice p l c)).run P w = .ok m w) (hf : (Builtin.firstCells 1 m (.slice p l c)).run P w = .ok news.toArray w) :
  (p = none ∧ news = []) ∨ ∃ A, p = some A ∧ l = m ∧ (loadCells A m).run P w = .ok news.toArray w := by
 have hlm : l = m := by simpa [Builtin.lenOf] using hl
 cases p with
 | none => exact .inl ⟨rfl, by simpa [Builtin.firstCells] using hf.symm⟩
 | some A => exact .inr ⟨A, rfl, hlm, by simpa [Builtin.firstCells] using hf⟩
theorem tail_slice {sz : Nat} {x : Operand} {K : Nat → List HV → M Leaf} (hI : Inv E P I0 H0 w0 nt β I H w S a) (h : tailD sz (S.ev E x) S K H n = some r) : ∃ p l c, a.eval x = .slice p l c := by
 replace h : app (tailD sz (S.ev E x) S K) H n = some r := h
 have hv := hI.ev x
 unfold tailD at h
 split at h
 ·rename_i d m ex
  rw [ex] at hv
  obtain ⟨_, b, _, hv⟩ := hv
  exact ⟨_, _, _, hv⟩
 ·rename_i s ex
  rw [ex] at hv
  generalize a.eval x = v at hv
  cases hv <;> exact ⟨_, _, _, rfl⟩
 ·exact (stk_some h).elim
theorem str_ok {s d : TypeId} {x : Operand} (hI : Inv E P I0 H0 w0 nt β I H w S a) (hb : bytesSrc P s d = true) (h : strD (S.ev E x) S K H n = some r) (ho : o.op = .convert s d x)
  (hk : Kont E P I0 H0 w0 nt K n r a o.dst next) : o.wpIn (FW ro) 0 P a w next Q := by
 obtain ⟨e, u1, u2, u3⟩ := bytesSrc_some hb
 obtain ⟨p, l, c, hv⟩ := tail_slice hI h
 obtain ⟨m, vs, h, ht⟩ := tail_some hI h
 obtain ⟨g, h⟩ := gd_some h
 obtain ⟨ns, hn, h⟩ := strM_some h
 obtain ⟨news, n1, n2, n3, n4⟩ := ht (by simpa using g)
 have hnews := bytesH_vr hn n1
 have hrun : (convert s d (a.eval x)).run P w = .ok (.string (strB ns)) w := by
  have n3' := n3 w
  have n4' := n4 w (fun _ => rfl)
  rw [hv] at n3' n4' ⊢
  rcases firstCells_slice n3' n4' with ⟨rfl, hnil⟩ | ⟨A, rfl, rfl, hl⟩
  ·have : ns = [] := by rw [hnil] at hnews; simpa using hnews.symm
   subst this
   rw [show (convert s d (.slice none l c)).run P w = (Conv.bytesToString (.slice none l c)).run P w by simp [convert, run_underlying u1, run_underlying u3, run_underlying u2]]
   rfl
  ·rw [run_convert_bytes_string w s d e _ _ _ u1 u2 u3]
   rw [hnews] at hl
   exact run_bytesToString w A l c ns hl
 exact wp_value (v := .string (strB ns)) (w' := w) (by simp only [execOp, ho, Sem.run_bind, hrun, Result.andThen_ok, Sem.run_pure]) (hk _ _ _ _ _ _ _ h hI (VR.str _))
theorem zeroCells_len {z : Array Value} {m : Nat} : (Builtin.zeroCells z m).size = m * z.size := by simp [Builtin.zeroCells]
theorem set_same {H : Heap} {b : Nat} {x : HObj} (h : H.get b = x) : H.set b x = H := by
 obtain ⟨m, g⟩ := H
 simp only [Heap.set, Heap.mk.injEq, true_and, and_true]
 funext y
 split
 ·rename_i e; subst e; exact h.symm
 ·rfl
theorem run_append_in_E {t t2 ty e : TypeId} {i : TypeInfo} {A : Addr} {c : Nat} (ht : P.underlying t = some (.slice e)) (h2 : AppT P t2) (hi : P.info? e = some i) {xv : Value} {news : List Value}
  (hlen : ∀ w, (Builtin.lenOf xv).run P w = .ok 0 w) (hf : (Builtin.firstCells i.size 0 xv).run P w = .ok news.toArray w) (hn : news = []) :
  (Builtin.append_ #[t, t2] ty #[.slice (some A) 0 c, xv]).run P w = .ok (.slice (some A) 0 c) w := by
 subst hn
 rcases h2 with ⟨e2, h2⟩ | h2 <;> simp [Builtin.append_, run_underlying ht, run_underlying h2, sizeOf, typeInfo, hi, hlen, hf, storeCells]
theorem apd_ok {t t2 ty e : TypeId} {i : TypeInfo} {z : Value} (hI : Inv E P I0 H0 w0 nt β I H w S a) (ht : P.underlying t = some (.slice e)) (h2 : AppT P t2) (hi : P.info? e = some i) (hz : i.zero = some z) (hzs : z.cells.size = i.size) (_hz1 : ∀ v ∈ z.cells.toList, v.oneCell' = true)
  {s : Sl} {sv : Value} (hs : VR I (.sl s) sv) {m : Nat} {vs : List HV} {xv : Value} {f : Sl → M Leaf}
  (hx : vs.length = m * i.size → ∃ news : List Value, VRs I vs news ∧ (∀ x ∈ news, x.oneCell' = true) ∧ (∀ w, (Builtin.lenOf xv).run P w = .ok m w) ∧
   ∀ w', (∀ A, w'.cell? A = w.cell? A) → (Builtin.firstCells i.size m xv).run P w' = .ok news.toArray w')
  (h : apd s i.size i.bytes m vs f H n = some r) :
  ∃ s' H' I' w' v, app (f s') H' n = some r ∧ Inv E P I0 H0 w0 nt β I' H' w' S a ∧ VR I' (.sl s') v ∧ (Builtin.append_ #[t, t2] ty #[sv, xv]).run P w = .ok v w' := by
 replace h := gd_some h
 obtain ⟨hg, h⟩ := h
 simp only [Bool.and_eq_true, decide_eq_true_eq] at hg
 obtain ⟨⟨⟨g1, g2⟩, g3⟩, g4⟩ := hg
 obtain ⟨news, n1, n2, n3, n4⟩ := hx g2
 have hnl := n1.length
 have h63 : ((s.len + m : Nat) : Int) ≤ 9223372036854775807 := by unfold room at g4; omega
 have hfit : ∀ cap', cap' < s.len + m → Builtin.nextslicecap (s.len + m) cap' * i.bytes ≤ 281474976710656 := fun cap' hc => growslice_fits hc g1
 have hsame : ∀ A, w.cell? A = w.cell? A := fun _ => rfl
 -- a new block, on both sides, behind whatever was done to the abstract heap
 have fresh : ∀ {H1 : Heap} (hI1 : Inv E P I0 H0 w0 nt β I H1 w S a) (hn : H1.n = H.n) {base : Option Addr} {cap' : Nat} {olds : List Value} {old : List HV} (hsv : sv = .slice base s.len cap') (hc : cap' < s.len + m)
   (ho : VRs I old olds) (ho1 : ∀ x ∈ olds, x.oneCell' = true) (hol : olds.length = s.len * i.size)
   (hfo : (Builtin.firstCells i.size s.len (.slice base s.len cap')).run P w.drew = .ok olds.toArray w.drew)
   (hk : app (f { p := some (H1.n, 0), len := s.len + m, cap := s.len + m, opn := some i.size }) (H1.push (.cells (old ++ vs) false)) n = some r),
   ∃ s' H' I' w' v, app (f s') H' n = some r ∧ Inv E P I0 H0 w0 nt β I' H' w' S a ∧ VR I' (.sl s') v ∧ (Builtin.append_ #[t, t2] ty #[sv, xv]).run P w = .ok v w' := by
  intro H1 hI1 hn base cap' olds old hsv hc ho ho1 hol hfo hk
  have hrun := run_append_out (ty := ty) ht h2 hi hz (base := base) n3 (n4 w.drew (fun _ => rfl)) hfo hc h63 (hfit cap' hc)
  rw [← hsv] at hrun
  have hdrew : Inv E P I0 H0 w0 nt β I H1 w.drew S a := hI1.heapput (Step.drew I H1 w) hI1.rel.drew
  have hge := grownCap_ge w (s.len + m) cap' e
  generalize hcap : grownCap w (s.len + m) cap' e = cap2 at *
  have hcell : ∀ (j : Nat) (x : HV), (old ++ vs)[j]? = some x → ∃ v, (olds ++ news ++ (Builtin.zeroCells z.cells (cap2 - (s.len + m))).toList).toArray[j]? = some v ∧ VC I x v := by
   intro j x hj
   have happ := ho.append n1
   obtain ⟨v, q1, q2⟩ := happ.get hj
   refine ⟨v, ?_, q2, ?_⟩
   ·rw [List.getElem?_toArray, List.getElem?_append_left (List.getElem?_eq_some_iff.1 q1).1]; exact q1
   ·rw [← q2.sc]
    rcases List.mem_append.1 (List.mem_of_getElem? q1) with hm | hm
    ·exact ho1 v hm
    ·exact n2 v hm
  refine ⟨_, _, _, _, _, hk, hdrew.heapput (Step.new hdrew.rel (old ++ vs) _ e) (hdrew.rel.new e hcell), ?_, hrun⟩
  refine VR.sl (b := H1.n) (b' := w.heap.size) (d := 0) (o := 0) (up_j I H1.n _ _) hge (fun hh => by cases hh) (fun es hes => ?_)
  cases hes
  refine ⟨_, by simp [Inj.up]; rfl, ?_⟩
  simp only [zeroCells_len, hzs, hol]
  have : news.length = m * i.size := by omega
  rw [this]
  have e1 : cap2 * i.size = s.len * i.size + m * i.size + (cap2 - (s.len + m)) * i.size := by
   rw [← Nat.add_mul, ← Nat.add_mul]; congr 1; omega
  omega
 obtain ⟨p, len, cap, opn⟩ := s
 simp only at g1 g4 h63 hfit fresh
 replace h : (if len + m ≤ cap then _ else _) = some r := h
 split at h
 ·rename_i hle
  cases p with
  | none =>
   obtain ⟨q1, h⟩ := gd_some h
   have hm : m = 0 := by simpa using q1
   subst hm
   cases hs
   exact ⟨_, H, I, w, _, h, hI, VR.slN, by
    rw [Nat.add_zero] at *
    exact run_append_in_none ht h2 hi n3 (n4 w hsame) hle⟩
  | some q =>
   obtain ⟨b, oo⟩ := q
   obtain ⟨cs, q2, q3, h⟩ := stN_some h
   replace q3 : oo + len * i.size + vs.length ≤ cs.length := q3
   replace hnl : news.length = vs.length := hnl
   cases hs with
   | @slE _ _ A =>
    have hm : m = 0 := by omega
    subst hm
    have hvs : vs = [] := by
     have : vs.length = 0 := by simpa using g2
     exact List.eq_nil_of_length_eq_zero this
    subst hvs
    have hset : H.set b (.cells (putN cs (oo + 0 * i.size) []) false) = H := set_same (by rw [q2]; simp [putN])
    replace h : app (f { p := some (b, oo), len := 0 + 0, cap := 0, opn := none }) (H.set b (.cells (putN cs (oo + 0 * i.size) []) false)) n = some r := h
    rw [hset] at h
    exact ⟨_, H, I, w, _, h, hI, VR.slE, by
     rw [Nat.add_zero] at *
     exact run_append_in_E (A := A) ht h2 hi n3 (n4 w hsame) (by cases n1; rfl)⟩
   | @slO _ _ c A =>
    have hm : m = 0 := by omega
    subst hm
    have hvs : vs = [] := by
     have : vs.length = 0 := by simpa using g2
     exact List.eq_nil_of_length_eq_zero this
    subst hvs
    have hset : H.set b (.cells (putN cs (oo + 0 * i.size) []) false) = H := set_same (by rw [q2]; simp [putN])
    replace h : app (f { p := some (b, oo), len := 0 + 0, cap := 0, opn := some 0 }) (H.set b (.cells (putN cs (oo + 0 * i.size) []) false)) n = some r := h
    rw [hset] at h
    exact ⟨_, H, I, w, _, h, hI, VR.slO, by
     rw [Nat.add_zero] at *
     exact run_append_in_E (A := A) (c := c) ht h2 hi n3 (n4 w hsame) (by cases n1; rfl)⟩
   | sl hj w1 w2 w3 =>
    rename_i b' d cap'
    obtain ⟨c, el, fr, c1, c2, c3⟩ := hI.rel.obj b b' d cs false hj q2
    obtain ⟨rfl, hfr⟩ := c3 rfl
    simp only [Nat.zero_add] at c2 ⊢
    have hcs : cs.length ≤ c.size := by
     rcases Nat.lt_or_ge c.size cs.length with hlt | hge
     ·obtain ⟨u, u1, _⟩ := c2 c.size _ (List.getElem?_eq_getElem hlt)
      simp at u1
     ·exact hge
    have hrun := run_append_in (ty := ty) ht h2 hi (b := b') (oo := oo) (sLen := len) (cap' := cap') n3 (n4 w hsame) (by omega) c1 hfr (by omega) n2
    obtain ⟨x2, e1, e2, e3⟩ := setCells_eq news (oo + len * i.size) w c el fr c1
    have hrel : Rel I (H.set b (.cells (putN cs (oo + len * i.size) vs) false)) (w.setCells b' (oo + len * i.size) news) := hI.rel.put hj q2 c1 e2 e1 (fun zz hzz => setCells_ne _ _ w zz hzz) (setCells_size _ _ w) (by
     intro j pp hp
     rw [putN_get q3] at hp
     by_cases hin : oo + len * i.size ≤ j ∧ j < oo + len * i.size + vs.length
     ·rw [if_pos hin] at hp
      obtain ⟨u, u1, u2⟩ := n1.get hp
      exact ⟨u, by rw [e3 j (by omega), if_pos (by omega)]; exact u1, u2, by rw [← u2.sc]; exact n2 u (List.mem_of_getElem? u1)⟩
     ·rw [if_neg hin] at hp
      obtain ⟨u, u1, u2⟩ := c2 j pp hp
      have : j < c.size := (Array.getElem?_eq_some_iff.1 u1).1
      exact ⟨u, by rw [e3 j this, if_neg (by omega)]; exact u1, u2⟩)
    refine ⟨_, _, I, _, _, h, hI.heapput (Step.put _ c1 hj q2 (fun zz hzz => setCells_ne _ _ w zz hzz) (setCells_size _ _ w) (setCells_ext _ _ w)) hrel, ?_, hrun⟩
    have := VR.sl (o := oo) (len := len + m) hj w1 w2 w3
    simpa using this
 ·rename_i hgt
  cases p with
  | none =>
   obtain ⟨q1, h5⟩ := gd_some h
   clear h
   have hl : len = 0 := by simpa using q1
   subst hl
   replace h5 : app (f { p := some (H.n, 0), len := m, cap := m, opn := some i.size }) (H.push (.cells vs false)) n = some r := h5
   cases hs
   exact fresh hI rfl (olds := []) (old := []) rfl (by omega) .nil (by simp) (by simp) (by simp [Builtin.firstCells]) (by simpa using h5)
  | some q =>
   obtain ⟨b, oo⟩ := q
   simp only at h
   cases hg : H.get b with
   | dead => rw [hg] at h; cases h
   | spc s => rw [hg] at h; cases h
   | cells cs ro =>
    rw [hg] at h
    obtain ⟨q1, h⟩ := gxN_some h
    replace q1 : oo + len * i.size ≤ cs.length := q1
    have hold := slice_cells (P := P) (sz := i.size) hI.rel hs (.inr ⟨b, oo, cs, ro, rfl, hg, q1, rfl⟩)
    obtain ⟨olds, o1, o2, o3, o4⟩ := hold
    have hol : olds.length = len * i.size := by rw [o1.length]; simp; omega
    cases opn with
    | none =>
     have h5 : app (f { p := some (H.n, 0), len := len + m, cap := len + m, opn := some i.size }) (H.push (.cells ((cs.drop oo).take (len * i.size) ++ vs) false)) n = some r := h
     clear h
     cases hs with
     | slE => exact fresh hI rfl rfl (by omega) o1 o2 hol (o4 w.drew (fun _ => rfl)) h5
     | sl hj w1 w2 w3 =>
      rename_i b' d cap'
      have hcc : cap' = cap := w2 rfl
      exact fresh hI rfl rfl (by omega) o1 o2 hol (o4 w.drew (fun _ => rfl)) h5
    | some es =>
     obtain ⟨q2, h5⟩ := gd_some h
     clear h
     simp only [Bool.and_eq_true, decide_eq_true_eq, Bool.not_eq_true'] at q2
     obtain ⟨⟨⟨rfl, rfl⟩, q4⟩, rfl⟩ := q2
     have h : app (f { p := some (H.n, 0), len := len + m, cap := len + m, opn := some i.size }) ((H.set b .dead).push (.cells ((cs.drop 0).take (len * i.size) ++ vs) false)) n = some r := h5
     clear h5
     generalize hsz0 : i.size = sz0 at hs
     cases hs with
     | slO => exact absurd g3 (by omega)
     | sl hj w1 w2 w3 =>
      subst hsz0
      rename_i b' d cap'
      rcases Nat.lt_or_ge cap' (len + m) with hlt | hge
      ·exact fresh (hI.heapput (Step.kill I H w b) (hI.rel.kill b)) rfl rfl hlt o1 o2 hol (o4 w.drew (fun _ => rfl)) h
      ·obtain ⟨c, el, fr, c1, c2, c3⟩ := hI.rel.obj b b' d cs false hj hg
       obtain ⟨rfl, hfr⟩ := c3 rfl
       obtain ⟨sz, z1, z2⟩ := w3 _ rfl
       obtain ⟨c', el', fr', z3, z4⟩ := hI.rel.sz b' sz z1
       rw [c1] at z3; cases z3
       simp only [Nat.zero_add] at c2 z2 ⊢
       have hmul : (len + m) * i.size ≤ cap' * i.size := Nat.mul_le_mul_right _ hge
       rw [Nat.add_mul] at hmul
       have hrun := run_append_in (ty := ty) ht h2 hi (b := b') (oo := 0) (sLen := len) (cap' := cap') n3 (n4 w hsame) hge c1 hfr (by omega) n2
       rw [Nat.zero_add] at hrun
       obtain ⟨x2, e1, e2, e3⟩ := setCells_eq news (len * i.size) w c el fr c1
       have hold2 : (cs.drop 0).take (len * i.size) = cs := by simp [← q4]
       rw [hold2] at h o1
       obtain ⟨hrel, hstep⟩ := hI.rel.mv (cs2 := cs ++ vs) hj hg c1 e2 e1 (fun zz hzz => setCells_ne _ _ w zz hzz) (setCells_size _ _ w) (setCells_ext _ _ w) (by
        intro j pp hp
        by_cases hin : j < cs.length
        ·rw [List.getElem?_append_left hin] at hp
         obtain ⟨u, u1, u2⟩ := c2 j pp hp
         have : j < c.size := (Array.getElem?_eq_some_iff.1 u1).1
         exact ⟨u, by rw [e3 j this, if_neg (by omega)]; exact u1, u2⟩
        ·rw [List.getElem?_append_right (by omega)] at hp
         obtain ⟨u, u1, u2⟩ := n1.get hp
         have hlt := (List.getElem?_eq_some_iff.1 u1).1
         refine ⟨u, ?_, u2, by rw [← u2.sc]; exact n2 u (List.mem_of_getElem? u1)⟩
         rw [e3 j (by omega), if_pos (by omega), ← q4]; exact u1)
       refine ⟨_, _, _, _, _, h, hI.heapput hstep hrel, ?_, hrun⟩
       exact VR.sl (b := H.n) (b' := b') (d := 0) (o := 0) (by simp [Inj.mv]) hge (fun hh => by cases hh) (fun es hes => by cases hes; exact ⟨sz, z1, by omega⟩)
theorem apdT_ok {t t2 ty e : TypeId} {i : TypeInfo} {z : Value} (hI : Inv E P I0 H0 w0 nt β I H w S a) (ht : P.underlying t = some (.slice e)) (h2 : AppT P t2) (hi : P.info? e = some i) (hz : i.zero = some z) (hzs : z.cells.size = i.size) (_hz1 : ∀ v ∈ z.cells.toList, v.oneCell' = true)
  {s : Sl} {sv : Value} (hs : VR I (.sl s) sv) {m : Nat} {vs : List HV} {xv : Value} {f : Sl → M Leaf}
  (hx : vs.length = m * i.size → ∃ news : List Value, VRs I vs news ∧ (∀ x ∈ news, x.oneCell' = true) ∧ (∀ w, (Builtin.lenOf xv).run P w = .ok m w) ∧
   ∀ w', (∀ A, w'.cell? A = w.cell? A) → (Builtin.firstCells i.size m xv).run P w' = .ok news.toArray w')
  (h : apdT e s i.size i.bytes m vs f H n = some r) :
  ∃ s' H' I' w' v, app (f s') H' n = some r ∧ Inv E P I0 H0 w0 nt β I' H' w' S a ∧ VR I' (.sl s') v ∧ (Builtin.append_ #[t, t2] ty #[sv, xv]).run P w = .ok v w' := by
 replace h := gd_some h
 obtain ⟨hg, h⟩ := h
 simp only [Bool.and_eq_true, decide_eq_true_eq] at hg
 obtain ⟨⟨⟨g1, g2⟩, g3⟩, g4⟩ := hg
 obtain ⟨news, n1, n2, n3, n4⟩ := hx g2
 have hnl := n1.length
 have h63 : ((s.len + m : Nat) : Int) ≤ 9223372036854775807 := by unfold room at g4; omega
 have hfit : ∀ cap', cap' < s.len + m → Builtin.nextslicecap (s.len + m) cap' * i.bytes ≤ 281474976710656 := fun cap' hc => growslice_fits hc g1
 have hsame : ∀ A, w.cell? A = w.cell? A := fun _ => rfl
 -- a new block, on both sides, behind whatever was done to the abstract heap
 have fresh : ∀ {H1 : Heap} (hI1 : Inv E P I0 H0 w0 nt β I H1 w S a) (hn : H1.n = H.n) {base : Option Addr} {cap' : Nat} {olds : List Value} {old : List HV} (hsv : sv = .slice base s.len cap') (hc : cap' < s.len + m)
   (ho : VRs I old olds) (ho1 : ∀ x ∈ olds, x.oneCell' = true) (hol : olds.length = s.len * i.size)
   (hfo : (Builtin.firstCells i.size s.len (.slice base s.len cap')).run P w.drew = .ok olds.toArray w.drew)
   (hk : app (f { p := some (H1.n, 0), len := s.len + m, cap := s.len + m, opn := some i.size }) (H1.pushT (some (e, none)) (.cells (old ++ vs) false)) n = some r),
   ∃ s' H' I' w' v, app (f s') H' n = some r ∧ Inv E P I0 H0 w0 nt β I' H' w' S a ∧ VR I' (.sl s') v ∧ (Builtin.append_ #[t, t2] ty #[sv, xv]).run P w = .ok v w' := by
  intro H1 hI1 hn base cap' olds old hsv hc ho ho1 hol hfo hk
  have hrun := run_append_out (ty := ty) ht h2 hi hz (base := base) n3 (n4 w.drew (fun _ => rfl)) hfo hc h63 (hfit cap' hc)
  rw [← hsv] at hrun
  have hdrew : Inv E P I0 H0 w0 nt β I H1 w.drew S a := hI1.heapput (Step.drew I H1 w) hI1.rel.drew
  have hge := grownCap_ge w (s.len + m) cap' e
  generalize hcap : grownCap w (s.len + m) cap' e = cap2 at *
  have hcell : ∀ (j : Nat) (x : HV), (old ++ vs)[j]? = some x → ∃ v, (olds ++ news ++ (Builtin.zeroCells z.cells (cap2 - (s.len + m))).toList).toArray[j]? = some v ∧ VC I x v := by
   intro j x hj
   have happ := ho.append n1
   obtain ⟨v, q1, q2⟩ := happ.get hj
   refine ⟨v, ?_, q2, ?_⟩
   ·rw [List.getElem?_toArray, List.getElem?_append_left (List.getElem?_eq_some_iff.1 q1).1]; exact q1
   ·rw [← q2.sc]
    rcases List.mem_append.1 (List.mem_of_getElem? q1) with hm | hm
    ·exact ho1 v hm
    ·exact n2 v hm
  refine ⟨_, _, _, _, _, hk, hdrew.heapput (Step.newT hdrew.rel (some (e, none)) (old ++ vs) _ e) (hdrew.rel.newT (some (e, none)) e (fun _ _ hh => by cases hh; exact ⟨rfl, fun k hk => by cases hk⟩) hcell), ?_, hrun⟩
  refine VR.sl (b := H1.n) (b' := w.heap.size) (d := 0) (o := 0) (up_j I H1.n _ _) hge (fun hh => by cases hh) (fun es hes => ?_)
  cases hes
  refine ⟨_, by simp [Inj.up]; rfl, ?_⟩
  simp only [zeroCells_len, hzs, hol]
  have : news.length = m * i.size := by omega
  rw [this]
  have e1 : cap2 * i.size = s.len * i.size + m * i.size + (cap2 - (s.len + m)) * i.size := by
   rw [← Nat.add_mul, ← Nat.add_mul]; congr 1; omega
  omega
 obtain ⟨p, len, cap, opn⟩ := s
 simp only at g1 g4 h63 hfit fresh
 replace h : (if len + m ≤ cap then _ else _) = some r := h
 split at h
 ·rename_i hle
  cases p with
  | none =>
   obtain ⟨q1, h⟩ := gd_some h
   have hm : m = 0 := by simpa using q1
   subst hm
   cases hs
   exact ⟨_, H, I, w, _, h, hI, VR.slN, by
    rw [Nat.add_zero] at *
    exact run_append_in_none ht h2 hi n3 (n4 w hsame) hle⟩
  | some q =>
   obtain ⟨b, oo⟩ := q
   obtain ⟨cs, q2, q3, h⟩ := stN_some h
   replace q3 : oo + len * i.size + vs.length ≤ cs.length := q3
   replace hnl : news.length = vs.length := hnl
   cases hs with
   | @slE _ _ A =>
    have hm : m = 0 := by omega
    subst hm
    have hvs : vs = [] := by
     have : vs.length = 0 := by simpa using g2
     exact List.eq_nil_of_length_eq_zero this
    subst hvs
    have hset : H.set b (.cells (putN cs (oo + 0 * i.size) []) false) = H := set_same (by rw [q2]; simp [putN])
    replace h : app (f { p := some (b, oo), len := 0 + 0, cap := 0, opn := none }) (H.set b (.cells (putN cs (oo + 0 * i.size) []) false)) n = some r := h
    rw [hset] at h
    exact ⟨_, H, I, w, _, h, hI, VR.slE, by
     rw [Nat.add_zero] at *
     exact run_append_in_E (A := A) ht h2 hi n3 (n4 w hsame) (by cases n1; rfl)⟩
   | @slO _ _ c A =>
    have hm : m = 0 := by omega
    subst hm
    have hvs : vs = [] := by
     have : vs.length = 0 := by simpa using g2
     exact List.eq_nil_of_length_eq_zero this
    subst hvs
    have hset : H.set b (.cells (putN cs (oo + 0 * i.size) []) false) = H := set_same (by rw [q2]; simp [putN])
    replace h : app (f { p := some (b, oo), len := 0 + 0, cap := 0, opn := some 0 }) (H.set b (.cells (putN cs (oo + 0 * i.size) []) false)) n = some r := h
    rw [hset] at h
    exact ⟨_, H, I, w, _, h, hI, VR.slO, by
     rw [Nat.add_zero] at *
     exact run_append_in_E (A := A) (c := c) ht h2 hi n3 (n4 w hsame) (by cases n1; rfl)⟩
   | sl hj w1 w2 w3 =>
    rename_i b' d cap'
    obtain ⟨c, el, fr, c1, c2, c3⟩ := hI.rel.obj b b' d cs false hj q2
    obtain ⟨rfl, hfr⟩ := c3 rfl
    simp only [Nat.zero_add] at c2 ⊢
    have hcs : cs.length ≤ c.size := by
     rcases Nat.lt_or_ge c.size cs.length with hlt | hge
     ·obtain ⟨u, u1, _⟩ := c2 c.size _ (List.getElem?_eq_getElem hlt)
      simp at u1
     ·exact hge
    have hrun := run_append_in (ty := ty) ht h2 hi (b := b') (oo := oo) (sLen := len) (cap' := cap') n3 (n4 w hsame) (by omega) c1 hfr (by omega) n2
    obtain ⟨x2, e1, e2, e3⟩ := setCells_eq news (oo + len * i.size) w c el fr c1
    have hrel : Rel I (H.set b (.cells (putN cs (oo + len * i.size) vs) false)) (w.setCells b' (oo + len * i.size) news) := hI.rel.put hj q2 c1 e2 e1 (fun zz hzz => setCells_ne _ _ w zz hzz) (setCells_size _ _ w) (by
     intro j pp hp
     rw [putN_get q3] at hp
     by_cases hin : oo + len * i.size ≤ j ∧ j < oo + len * i.size + vs.length
     ·rw [if_pos hin] at hp
      obtain ⟨u, u1, u2⟩ := n1.get hp
      exact ⟨u, by rw [e3 j (by omega), if_pos (by omega)]; exact u1, u2, by rw [← u2.sc]; exact n2 u (List.mem_of_getElem? u1)⟩
     ·rw [if_neg hin] at hp
      obtain ⟨u, u1, u2⟩ := c2 j pp hp
      have : j < c.size := (Array.getElem?_eq_some_iff.1 u1).1
      exact ⟨u, by rw [e3 j this, if_neg (by omega)]; exact u1, u2⟩)
    refine ⟨_, _, I, _, _, h, hI.heapput (Step.put _ c1 hj q2 (fun zz hzz => setCells_ne _ _ w zz hzz) (setCells_size _ _ w) (setCells_ext _ _ w)) hrel, ?_, hrun⟩
    have := VR.sl (o := oo) (len := len + m) hj w1 w2 w3
    simpa using this
 ·rename_i hgt
  cases p with
  | none =>
   obtain ⟨q1, h5⟩ := gd_some h
   clear h
   have hl : len = 0 := by simpa using q1
   subst hl
   replace h5 : app (f { p := some (H.n, 0), len := m, cap := m, opn := some i.size }) (H.pushT (some (e, none)) (.cells vs false)) n = some r := h5
   cases hs
   exact fresh hI rfl (olds := []) (old := []) rfl (by omega) .nil (by simp) (by simp) (by simp [Builtin.firstCells]) (by simpa using h5)
  | some q =>
   obtain ⟨b, oo⟩ := q
   simp only at h
   cases hg : H.get b with
   | dead => rw [hg] at h; cases h
   | spc s => rw [hg] at h; cases h
   | cells cs ro =>
    rw [hg] at h
    obtain ⟨q1, h⟩ := gxN_some h
    replace q1 : oo + len * i.size ≤ cs.length := q1
    have hold := slice_cells (P := P) (sz := i.size) hI.rel hs (.inr ⟨b, oo, cs, ro, rfl, hg, q1, rfl⟩)
    obtain ⟨olds, o1, o2, o3, o4⟩ := hold
    have hol : olds.length = len * i.size := by rw [o1.length]; simp; omega
    cases opn with
    | none =>
     have h5 : app (f { p := some (H.n, 0), len := len + m, cap := len + m, opn := some i.size }) (H.pushT (some (e, none)) (.cells ((cs.drop oo).take (len * i.size) ++ vs) false)) n = some r := h
     clear h
     cases hs with
     | slE => exact fresh hI rfl rfl (by omega) o1 o2 hol (o4 w.drew (fun _ => rfl)) h5
     | sl hj w1 w2 w3 =>
      rename_i b' d cap'
      have hcc : cap' = cap := w2 rfl
      exact fresh hI rfl rfl (by omega) o1 o2 hol (o4 w.drew (fun _ => rfl)) h5
    | some es =>
     obtain ⟨q2, h5⟩ := gd_some h
     clear h
     simp only [Bool.and_eq_true, decide_eq_true_eq, Bool.not_eq_true'] at q2
     obtain ⟨⟨⟨⟨rfl, rfl⟩, q4⟩, rfl⟩, q5⟩ := q2
     have h : app (f { p := some (H.n, 0), len := len + m, cap := len + m, opn := some i.size }) ((H.set b .dead).pushT (some (e, none)) (.cells ((cs.drop 0).take (len * i.size) ++ vs) false)) n = some r := h5
     clear h5
     generalize hsz0 : i.size = sz0 at hs
     cases hs with
     | slO => exact absurd g3 (by omega)
     | sl hj w1 w2 w3 =>
      subst hsz0
      rename_i b' d cap'
      rcases Nat.lt_or_ge cap' (len + m) with hlt | hge
      ·exact fresh (hI.heapput (Step.kill I H w b) (hI.rel.kill b)) rfl rfl hlt o1 o2 hol (o4 w.drew (fun _ => rfl)) h
      ·obtain ⟨c, el, fr, c1, c2, c3⟩ := hI.rel.obj b b' d cs false hj hg
       obtain ⟨rfl, hfr⟩ := c3 rfl
       obtain ⟨sz, z1, z2⟩ := w3 _ rfl
       obtain ⟨c', el', fr', z3, z4⟩ := hI.rel.sz b' sz z1
       rw [c1] at z3; cases z3
       simp only [Nat.zero_add] at c2 z2 ⊢
       have hmul : (len + m) * i.size ≤ cap' * i.size := Nat.mul_le_mul_right _ hge
       rw [Nat.add_mul] at hmul
       have hrun := run_append_in (ty := ty) ht h2 hi (b := b') (oo := 0) (sLen := len) (cap' := cap') n3 (n4 w hsame) hge c1 hfr (by omega) n2
       rw [Nat.zero_add] at hrun
       obtain ⟨x2, e1, e2, e3⟩ := setCells_eq news (len * i.size) w c el fr c1
       have hold2 : (cs.drop 0).take (len * i.size) = cs := by simp [← q4]
       rw [hold2] at h o1
       have hel : el = e := by
        obtain ⟨_, cc, frr, t1, _⟩ := hI.rel.ty _ _ _ _ _ hj q5
        rw [c1] at t1; cases t1; rfl
       obtain ⟨hrel, hstep⟩ := hI.rel.mvT (some (e, none)) (cs2 := cs ++ vs) hj hg c1 e2 e1 (fun zz hzz => setCells_ne _ _ w zz hzz) (setCells_size _ _ w) (setCells_ext _ _ w) (fun _ _ hh => by cases hh; exact ⟨hel, fun k hk => by cases hk⟩) (by
        intro j pp hp
        by_cases hin : j < cs.length
        ·rw [List.getElem?_append_left hin] at hp
         obtain ⟨u, u1, u2⟩ := c2 j pp hp
         have : j < c.size := (Array.getElem?_eq_some_iff.1 u1).1
         exact ⟨u, by rw [e3 j this, if_neg (by omega)]; exact u1, u2⟩
        ·rw [List.getElem?_append_right (by omega)] at hp
         obtain ⟨u, u1, u2⟩ := n1.get hp
         have hlt := (List.getElem?_eq_some_iff.1 u1).1
         refine ⟨u, ?_, u2, by rw [← u2.sc]; exact n2 u (List.mem_of_getElem? u1)⟩
         rw [e3 j (by omega), if_pos (by omega), ← q4]; exact u1)
       refine ⟨_, _, _, _, _, h, hI.heapput hstep hrel, ?_, hrun⟩
       exact VR.sl (b := H.n) (b' := b') (d := 0) (o := 0) (by simp [Inj.mv]) hge (fun hh => by cases hh) (fun es hes => by cases hes; exact ⟨sz, z1, by omega⟩)
end
end Go.Proofs.YtbphjihgbenkdaaGreat.HQ
