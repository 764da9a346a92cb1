/- A region that draws its order does what its text does (draw_ok). Conditions: what is called is told by its text (EnvOk). -/
import Derived.Test.YtijppadieomnjaaHMW
namespace Go.Proofs.Ytijppadieomnjaa.HM
open Go
set_option linter.unusedSectionVars false
variable [Sites]

section
variable {E : Env} {P : Program} {esc : Nat → Bool} {n : Nat} {I0 : Inj} {H0 : Heap} {w0 : World} {nt : Cx} {ops : Array Oper} {T : Nat → TS} {cls : List Cl} {L : Nat → Bool} {Q : Exit → Act → World → Prop}
variable {β : Nat → Option Nat} {I : Inj} {H : Heap} {w : World} {S : St} {a : Act} {ro : Option Nat}

theorem Inv.cong (hI : Inv E P I0 H0 w0 nt β I H w S a) {S' : St} (hF : ∀ t, S'.F.get t = S.F.get t) (hB : Beq S'.B S.B) : Inv E P I0 H0 w0 nt β I H w S' a := by
  obtain ⟨F', B'⟩ := S'
  obtain ⟨F, B⟩ := S
  simp only at hB hF
  obtain ⟨b1, b2⟩ := hB
  refine ⟨hI.step, hI.rel, ?_, ⟨?_, ?_, ?_⟩, ?_, hI.gl, hI.sz, ?_, hI.defers⟩
  · intro t
    have := hI.fr t
    simp only at this ⊢
    rw [hF t]
    generalize F.get t = s at this
    cases s with
    | un => trivial
    | v x => exact this
    | loc d off => obtain ⟨h0, q⟩ := this; exact ⟨by rw [b1]; exact h0, q⟩
    | lsl d n => obtain ⟨h0, q⟩ := this; exact ⟨by rw [b1]; exact h0, q⟩
  · intro d cs e
    simp only at e
    rw [b1] at e; exact hI.br.box d cs e
  · intro d1 d2 b e1 e2
    simp only at e1 e2
    rw [b1] at e1 e2; exact hI.br.inj d1 d2 b e1 e2
  · intro d b e
    simp only at e
    rw [b1] at e; exact hI.br.img d b e
  · intro d b e
    simp only at e
    rw [b1] at e; exact hI.fresh d b e
  · intro b hb
    have := hI.anc b hb
    simp only at this ⊢
    rw [b2]; exact this
theorem Inv.drawn (hI : Inv E P I0 H0 w0 nt β I H w S a) (d : Nat) : Inv E P I0 H0 w0 nt β I H { w with drawn := d } S a :=
  ⟨⟨hI.step.ext, hI.step.le, hI.step.n, hI.step.size, hI.step.keep, hI.step.img1, hI.step.img2, hI.step.img3⟩, ⟨hI.rel.bnd, hI.rel.img, hI.rel.obj, hI.rel.inj, hI.rel.sz, hI.rel.loop, hI.rel.linj⟩, hI.fr, ⟨hI.br.box, hI.br.inj, hI.br.img⟩, hI.fresh, hI.gl, hI.sz, hI.anc, hI.defers⟩

theorem Good.wanted {o : Oper} {u v : TS} (h : Good E P esc n ops o u v) (hI : Inv E P I0 H0 w0 nt β I H w S a) (hF : ∀ t ∈ o.looksAt ops, S.F.get t = u.F.get t) : Region.wanted o (yielded ops a.tmps) = u.x := by
  cases hg : o.guard with
  | none => simp [Region.wanted, hg, h.g0 hg]
  | some q =>
    obtain ⟨j, want⟩ := q
    obtain ⟨g, h1, hor⟩ := h.g1 j want hg
    have hm : g ∈ o.looksAt ops := by simp [Oper.looksAt, hg, h1]
    rcases hor with ⟨b, h2, h3⟩ | ⟨h2, h3⟩
    case inr =>
      have h4 := hI.fr g
      rw [hF g hm, h2] at h4
      have hy := yielded_ud (tmps := a.tmps) h1 (vr_ud' h4)
      simp only [Region.wanted, hg, hy, h3]; rfl
    have h4 := hI.fr g
    rw [hF g hm, h2] at h4
    have h5 : VR I (.bool b) (a.tmps.getD g undef) := h4
    have h6 : a.tmps.getD g undef = .bool b := by
      generalize a.tmps.getD g undef = u at h5
      cases h5; rfl
    have hy := yielded_eq h1 h6
    simp only [Region.wanted, hg, hy, h3]
    cases b <;> cases want <;> rfl

theorem draw_step (hE : EnvOk P E) (h : Ok E P esc n ops T cls L) {i : Nat} {y : Oper} (hy : ops.toList[i]? = some y) (hi : L i = false)
    (hr : ∀ e ∈ y.after.toList, Region.binds .any e = true → L e.on = true) (hd : ∀ d, y.dst = some d → d < nt.nt ∧ ∀ b ∈ nt.bars, d ∈ b.T)
    (hF : ∀ t, S.F.get t = fL ops.toList T L t ops.size) (hB : Beq S.B (bL T L ops.size)) (hI : Inv E P I0 H0 w0 nt β I (hL T L ops.size) w S a) {next : Act → World → Prop}
    (hn : ∀ β' I' w' a' S', (∀ t, S'.F.get t = fL ops.toList T (ins L i) t ops.size) → Beq S'.B (bL T (ins L i) ops.size) → Inv E P I0 H0 w0 nt β' I' (hL T (ins L i) ops.size) w' S' a' → next a' w') : wpOpIn (FW ro) 0 P ops Q i next a w := by
  have hy' : ops[i]? = some y := by rw [← Array.getElem?_toList]; exact hy
  have hlk : ∀ t ∈ y.looksAt ops, S.F.get t = (T i).F.get t := fun t ht => by rw [hF]; exact h.looks hy hi hr ht
  have hg := h.good i y hy
  have hw := hg.wanted hI hlk
  unfold wpOpIn
  rw [hy']
  simp only [hw]
  have iF := h.insF hy hi
  have iB := h.insB hy hi
  have iH := h.insH hy hi
  cases hx : (T i).x with
  | false =>
    obtain ⟨q1, _, q4⟩ := hg.no hx
    rw [if_neg (by simp)]
    rw [q4] at iB iH
    refine ⟨fun _ _ => trivial, ?_⟩
    refine hn β I w _ (S.put y.dst UD) (fun t => ?_) ?_ ?_
    · rw [put_get, iF, q1, hF]
    · rw [put_B]; exact hB.trans iB.symm
    · rw [iH]; exact hI.put (v := undef) vr_ud hd
  | true =>
    obtain ⟨q1, _, q4⟩ := hg.yes hx
    rw [if_pos rfl]
    have hev : ∀ x ∈ y.op.operands.toList, S.ev E x = (⟨(T i).F, (T i).B⟩ : St).ev E x := by
      intro x hx
      cases x with
      | tmp t =>
        simp only [St.ev]
        refine hlk t ?_
        simp only [Oper.looksAt, List.mem_append, List.mem_filterMap]
        exact .inl ⟨_, hx, rfl⟩
      | _ => rfl
    rw [q1] at iB iH
    have hBB := fun d (hd : (T i).c.rB = some d ∨ (T i).c.wB = some d) => h.boxes hy hi hr hd
    have hHH := h.heap hy hi hr
    rw [q1] at hBB hHH
    classical
    refine op_ok (n := n) (r := (.norm [], hL T (ins L i) ops.size)) (K := fun sv' S' H' _ => if sv' = (T i).sv ∧ S' = ⟨S.F, wrB (clOf E esc y ⟨(T i).F, (T i).B⟩).wB (T i).wc S.B⟩ ∧ H' = hL T (ins L i) ops.size then some (.norm [], H') else none) (esc := esc) hE hI ?_ ?_
    · rw [q4 _ S _ hev (fun d q => by rw [hB.1]; exact hBB d q) hHH, ← iH]
      simp
    · intro sv S' H' I' β' w' v hK hI' hsv
      simp only at hK
      split at hK
      · rename_i q
        obtain ⟨rfl, rfl, rfl⟩ := q
        refine hn β' I' w' _ _ ?_ ?_ (hI'.put hsv hd)
        · intro t; rw [put_get, iF]; simp only [hF]
        · rw [put_B]; exact (hB.wr _ _).trans iB.symm
      · cases hK

def unl (l : List Bool) : Nat := (l.filter (!·)).length
theorem unl_set : ∀ (l : List Bool) (i : Nat), l[i]? = some false → unl (l.set i true) + 1 = unl l
  | [], i, h => by simp at h
  | x :: l, 0, h => by simp at h; subst h; simp [unl]
  | x :: l, i + 1, h => by
    have := unl_set l i (by simpa using h)
    simp only [unl, List.set_cons_succ, List.filter_cons] at this ⊢
    split
    · simp only [List.length_cons]; omega
    · exact this
theorem unl_zero : ∀ (l : List Bool), unl l = 0 → ∀ k, k < l.length → l[k]? = some true
  | x :: l, h, k, hk => by
    cases x with
    | false => simp [unl] at h
    | true =>
      cases k with
      | zero => rfl
      | succ k => 
        have := unl_zero l (by simpa [unl] using h) k (by simpa using hk)
        simpa using this
  | [], _, k, hk => by simp at hk

theorem mem_ready {listed : Array Bool} {i : Nat} : i ∈ Region.ready .any ops listed ↔ listed.getD i true = false ∧ ∃ y, ops.toList[i]? = some y ∧ ∀ e ∈ y.after.toList, Region.binds .any e = true → listed.getD e.on false = true := by
  simp only [Region.ready, List.mem_filter, List.mem_range, Bool.and_eq_true, Bool.not_eq_true', Array.getElem?_toList]
  constructor
  · rintro ⟨h1, h2, h3⟩
    refine ⟨h2, ?_⟩
    cases e : ops[i]? with
    | none => rw [e] at h3; simp at h3
    | some y =>
      rw [e] at h3
      simp only [Option.map_some, Option.getD_some, Array.all_eq_true_iff_forall_mem, Bool.or_eq_true, Bool.not_eq_true'] at h3
      refine ⟨y, rfl, fun e he hb => ?_⟩
      rcases h3 e (by simpa using he) with h | h
      · rw [hb] at h; cases h
      · exact h
  · rintro ⟨h2, y, hy, h3⟩
    refine ⟨(Array.getElem?_eq_some_iff.1 hy).1, h2, ?_⟩
    rw [hy]
    simp only [Option.map_some, Option.getD_some, Array.all_eq_true_iff_forall_mem, Bool.or_eq_true, Bool.not_eq_true']
    intro e he
    cases hb : Region.binds .any e with
    | false => exact .inl rfl
    | true => exact .inr (h3 e (by simpa using he) hb)

theorem draw_any (hE : EnvOk P E) (hd : ∀ o ∈ ops.toList, ∀ d, o.dst = some d → d < nt.nt ∧ ∀ b ∈ nt.bars, d ∈ b.T)
    (hQ : ∀ β I w a S, (∀ t, S.F.get t = (T ops.size).F.get t) → Beq S.B (T ops.size).B → Inv E P I0 H0 w0 nt β I (T ops.size).H w S a → Q .normal a w) :
    ∀ (fuel : Nat) (listed : Array Bool) {β I w S a}, listed.size = ops.size → Ok E P esc n ops T cls (fun k => listed.getD k false) → unl listed.toList ≤ fuel →
      (∀ t, S.F.get t = fL ops.toList T (fun k => listed.getD k false) t ops.size) → Beq S.B (bL T (fun k => listed.getD k false) ops.size) → Inv E P I0 H0 w0 nt β I (hL T (fun k => listed.getD k false) ops.size) w S a →
      wpAnyIn (FW ro) 0 P .any ops Q fuel listed a w := by
  intro fuel
  -- where none is ready all are listed
  have fin : ∀ (listed : Array Bool) {β I w S a}, listed.size = ops.size → Ok E P esc n ops T cls (fun k => listed.getD k false) →
      (∀ t, S.F.get t = fL ops.toList T (fun k => listed.getD k false) t ops.size) → Beq S.B (bL T (fun k => listed.getD k false) ops.size) → Inv E P I0 H0 w0 nt β I (hL T (fun k => listed.getD k false) ops.size) w S a →
      Region.ready .any ops listed = [] → Q .normal a w := by
    intro listed β I w S a hs hok hF hB hI hrd
    have hall : ∀ k, k < ops.size → listed.getD k false = true := by
      intro k
      induction k using Nat.strongRecOn with
      | ind k ih =>
        intro hk
        cases hk' : listed.getD k false with
        | true => rfl
        | false =>
          exfalso
          obtain ⟨y, hy⟩ := get_op (ops := ops) hk
          have hback := backOk_spec _ (by have := hok.chk; simp only [drawOk, Bool.and_eq_true] at this; exact this.1) k y hy
          simp only [Nat.zero_add] at hback
          have : k ∈ Region.ready .any ops listed := mem_ready.2 ⟨by
            rw [Array.getD_eq_getD_getElem?, Array.getElem?_eq_getElem (by omega)] at hk' ⊢
            exact hk', y, hy, fun e he hb => ih e.on (hback e he hb) (by have := hback e he hb; omega)⟩
          rw [hrd] at this; cases this
    obtain ⟨g1, g2, g3⟩ := hok.all hall
    refine hQ β I w a S (fun t => by rw [hF, g1]) (by rw [← g2]; exact hB) (by rw [← g3]; exact hI)
  induction fuel with
  | zero =>
    intro listed β I w S a hs hok hu hF hB hI
    have hrd : Region.ready .any ops listed = [] := by
      cases e : Region.ready .any ops listed with
      | nil => rfl
      | cons i rest =>
        exfalso
        have : i ∈ Region.ready .any ops listed := by rw [e]; exact List.mem_cons_self
        obtain ⟨h1, y, hy, _⟩ := mem_ready.1 this
        have hin : i < ops.size := by simpa using (List.getElem?_eq_some_iff.1 hy).1
        have := unl_zero _ (Nat.le_zero.1 hu) i (by simpa [hs] using hin)
        rw [Array.getD_eq_getD_getElem?, ← Array.getElem?_toList, this] at h1
        cases h1
    exact ⟨hrd, fin listed hs hok hF hB hI hrd⟩
  | succ fuel ih =>
    intro listed β I w S a hs hok hu hF hB hI
    refine ⟨fin listed hs hok hF hB hI, fun i hi => ?_⟩
    obtain ⟨h1, y, hy, hr⟩ := mem_ready.1 hi
    have hin : i < ops.size := by simpa using (List.getElem?_eq_some_iff.1 hy).1
    have hlf : listed.toList[i]? = some false := by
      rw [Array.getD_eq_getD_getElem?, Array.getElem?_eq_getElem (by omega)] at h1
      rw [Array.getElem?_toList, Array.getElem?_eq_getElem (by omega)]
      exact congrArg some h1
    have hli : (fun k => listed.getD k false) i = false := by
      simp only; rw [Array.getD_eq_getD_getElem?, ← Array.getElem?_toList, hlf]; rfl
    have hins : (fun k => (listed.setIfInBounds i true).getD k false) = ins (fun k => listed.getD k false) i := by
      funext k
      simp only [Array.getD_eq_getD_getElem?, ins]
      by_cases hk : k = i
      · subst hk; simp [hs, hin]
      · rw [if_neg hk, Array.getElem?_setIfInBounds_ne (Ne.symm hk)]
    refine draw_step hE hok hy hli hr (hd y (List.mem_of_getElem? hy)) hF hB hI ?_
    intro β' I' w' a' S' gF gB gI
    refine ih (listed.setIfInBounds i true) (by simpa using hs) ?_ ?_ (by rw [hins]; exact gF) (by rw [hins]; exact gB) (by rw [hins]; exact gI)
    · refine ⟨hok.good, hok.chk, hok.len, hok.cl, fun k o ho hk e he hb => ?_⟩
      have hk : ins (fun k => listed.getD k false) i k = true := by rw [← hins]; exact hk
      show (fun k => (listed.setIfInBounds i true).getD k false) e.on = true
      rw [hins]
      by_cases hk' : k = i
      · subst hk'
        rw [hy] at ho; cases ho
        have := hr e he hb
        simp only [ins]; split <;> simp [this]
      · rw [ins_ne hk'] at hk
        have := hok.down k o ho hk e he hb
        simp only [ins] at this ⊢; split <;> simp [this]
    · have := unl_set listed.toList i hlf
      rw [Array.toList_setIfInBounds]
      omega

theorem fL_none {ops : List Oper} {T : Nat → TS} (t : Nat) : ∀ k, fL ops T (fun _ => false) t k = (T 0).F.get t
  | 0 => rfl
  | k + 1 => by simp only [fL]; rw [if_neg (by simp), fL_none t k]
theorem bL_none {T : Nat → TS} : ∀ k, bL T (fun _ => false) k = (T 0).B
  | 0 => rfl
  | k + 1 => by simp only [bL]; rw [if_neg (by simp), bL_none k]
theorem hL_none {T : Nat → TS} : ∀ k, hL T (fun _ => false) k = (T 0).H
  | 0 => rfl
  | k + 1 => by simp only [hL]; rw [if_neg (by simp), hL_none k]

theorem draw_ok (hE : EnvOk P E) (hm : P.follows .mixedOrders = true) {id : Nat} {K : St → M Leaf} {r : Leaf × Heap} (hd : ∀ o ∈ ops.toList, ∀ d, o.dst = some d → d < nt.nt ∧ ∀ b ∈ nt.bars, d ∈ b.T)
    (h : denOpsT E P esc ops ops.toList [] S (fun S' cls => gd (drawOk ops cls) (K S')) H n = some r) (hI : Inv E P I0 H0 w0 nt β I H w S a) (hQ : Post E P I0 H0 w0 nt K n r (Q .normal)) : (Code.region id ops true).wpIn (FW ro) 0 P Q a w := by
  obtain ⟨T, h1, h2, h3, h4, F', h5, h6⟩ := trace ops.toList [] S H h
  rw [List.nil_append] at h6
  obtain ⟨g1, g2⟩ := gd_some h6
  simp only [Array.length_toList] at g1 g2 h5
  refine wpIn_region_any hm ?_
  have hno : (fun k => (Array.replicate ops.size false).getD k false) = fun _ => false := by
    funext k
    rw [Array.getD_eq_getD_getElem?]
    by_cases hk : k < ops.size
    · simp [hk]
    · simp [hk]
  refine draw_any (I0 := I0) (H0 := H0) (w0 := w0) (nt := nt) (T := T) (cls := (List.range ops.size).map fun k => (T k).c) (esc := esc) (n := n) (S := S) (β := β) (I := I) hE hd ?_ ops.size _ (by simp) ?_ ?_ ?_ ?_ ?_
  · intro β' I' w' a' S' q1 q2 q3
    refine hQ β' I' _ w' _ a' g2 (q3.cong (S' := ⟨F', (T ops.size).B⟩) (fun t => ?_) ?_)
    · simp only; rw [h5, q1]
    · exact q2.symm
  · refine ⟨h4, g1, by simp, fun k hk => by simp [hk], fun k o _ hk => ?_⟩
    have hk' : (fun k => (Array.replicate ops.size false).getD k false) k = true := hk
    rw [hno] at hk'; cases hk'
  · have : unl (Array.replicate ops.size false).toList = ops.size := by
      simp [unl]
    omega
  · intro t; rw [hno, fL_none, h1]
  · rw [hno, bL_none, h2]; exact Beq.refl _
  · rw [hno, hL_none, h3]; exact hI.drawn _
end
end Go.Proofs.Ytijppadieomnjaa.HM
