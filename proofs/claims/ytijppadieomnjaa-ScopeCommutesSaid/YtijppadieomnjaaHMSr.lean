/- A round of a loop over a function, by its text. Conditions: what is called is told by its text (EnvOk); mixedOrders. -/
import Derived.Test.YtijppadieomnjaaHMS
namespace Go.Proofs.Ytijppadieomnjaa.HM
open Go
set_option linter.unusedSectionVars false
variable [Sites]

theorem setS_zip : ∀ {J : List JI} {vs : List HV} {S S1 : St}, boxes J = [] → setS J vs S = some S1 → vs.length = (jslots J).length ∧ S1.B = S.B ∧ (∀ t, t ∈ jslots J → ∃ h, (t, h) ∈ (jslots J).zip vs ∧ S1.F.get t = .v h)
  | [], [], S, S1, _, h => by
    simp [setS] at h; subst h
    exact ⟨rfl, rfl, fun t ht => by cases ht⟩
  | .t t sh :: J, v :: vs, S, S1, hb, h => by
    simp only [setS] at h
    obtain ⟨h1, h2, h3⟩ := setS_zip (J := J) hb h
    refine ⟨by simp [jslots, h1], h2, fun x hx => ?_⟩
    by_cases hin : x ∈ jslots J
    · obtain ⟨u, u1, u2⟩ := h3 x hin
      exact ⟨u, by simp [jslots, u1], u2⟩
    · have e : x = t := (List.mem_cons.1 hx).resolve_right hin
      subst e
      refine ⟨v, by simp [jslots], ?_⟩
      rw [setS_other h x hin, Fr.get_set, if_pos rfl]
  | .x d shs :: J, vs, S, S1, hb, h => by simp [boxes] at hb

theorem zip_fs : ∀ vs : List (Nat × HV), (vs.map Prod.fst).zip (vs.map Prod.snd) = vs
  | [] => rfl
  | p :: vs => by simp only [List.map_cons, List.zip_cons_cons, zip_fs vs]

theorem fold_get : ∀ (ps : List Nat) (vs : List Value) (T : Array Value), (∀ t, t ∉ ps → ((ps.zip vs).foldl (fun T (p : Nat × Value) => T.setIfInBounds p.1 p.2) T).getD t undef = T.getD t undef) ∧
    (((ps.zip vs).foldl (fun T (p : Nat × Value) => T.setIfInBounds p.1 p.2) T).size = T.size) ∧
    (ps.Nodup → (∀ t ∈ ps, t < T.size) → ∀ t v, (t, v) ∈ ps.zip vs → ((ps.zip vs).foldl (fun T (p : Nat × Value) => T.setIfInBounds p.1 p.2) T).getD t undef = v)
  | [], vs, T => ⟨fun _ _ => rfl, rfl, fun _ _ t v h => by simp at h⟩
  | p :: ps, [], T => ⟨fun _ _ => rfl, rfl, fun _ _ t v h => by simp at h⟩
  | p :: ps, u :: vs, T => by
    obtain ⟨h1, h2, h3⟩ := fold_get ps vs (T.setIfInBounds p u)
    refine ⟨fun t ht => ?_, by simp only [List.zip_cons_cons, List.foldl_cons]; rw [h2]; simp, fun hn hlt t v hm => ?_⟩
    · simp only [List.mem_cons, not_or] at ht
      simp only [List.zip_cons_cons, List.foldl_cons]
      rw [h1 t ht.2]
      simp only [Array.getD_eq_getD_getElem?]
      rw [Array.getElem?_setIfInBounds_ne (Ne.symm ht.1)]
    · obtain ⟨n1, n2⟩ := List.nodup_cons.1 hn
      simp only [List.zip_cons_cons, List.foldl_cons]
      rcases List.mem_cons.1 hm with e | hm
      · cases e
        rw [h1 p n1]
        have := hlt p List.mem_cons_self
        simp [Array.getD_eq_getD_getElem?, this]
      · exact h3 n2 (fun t ht => by simp; exact hlt t (List.mem_cons_of_mem _ ht)) t v hm

def eqL : List Nat → List Nat → Bool
  | [], [] => true
  | x :: l, y :: m => match Nat.beq x y with
    | true => eqL l m
    | false => false
  | _, _ => false
theorem eqL_eq : ∀ {l m : List Nat}, eqL l m = true → l = m
  | [], [], _ => rfl
  | x :: l, y :: m, h => by
    simp only [eqL] at h
    split at h
    · rename_i e; rw [Nat.eq_of_beq_eq_true e, eqL_eq h]
    · cases h
  | [], _ :: _, h => by cases h
  | _ :: _, [], h => by cases h
def ndL : List Nat → Bool
  | [] => true
  | x :: l => match mem x l with
    | true => false
    | false => ndL l
theorem ndL_nd : ∀ {l : List Nat}, ndL l = true → l.Nodup
  | [], _ => List.nodup_nil
  | x :: l, h => by
    simp only [ndL] at h
    split at h
    · cases h
    · rename_i e
      refine List.nodup_cons.2 ⟨fun hx => ?_, ndL_nd h⟩
      rw [(mem_iff x l).2 hx] at e; cases e
def ltL (N : Nat) (l : List Nat) : Bool := l.all fun t => Nat.blt t N
theorem ltL_lt {N : Nat} {l : List Nat} (h : ltL N l = true) : ∀ t ∈ l, t < N := fun t ht => by
  have := List.all_eq_true.1 h t ht
  exact Nat.le_of_ble_eq_true this
def emp {α : Type} (l : List α) : Bool := match l with
  | [] => true
  | _ => false
theorem emp_nil {α : Type} {l : List α} (h : emp l = true) : l = [] := by
  cases l with
  | nil => rfl
  | cons x l => cases h
/-- what a round's text must be. -/
def rndChk (s : Site) (J Jp : List JI) (an1 an2 : Ann) (N : Nat) : Bool :=
  emp (boxes J) && emp (boxes Jp) && eqL (jslots Jp) s.ps.toList && ndL (jslots Jp) && ltL N (jslots Jp) && ltL N (assigned s.a) && ltL N (assigned s.b) && emp (sites s.a an1) && emp (sites s.b an2) && !hasRet s.a

section
variable {E : Env} {P : Program} {I : Inj} {H H' : Heap} {w : World} {n : Nat} {rv : HV}

theorem find_ids {id lv : Nat} {J : List JI} : ∀ {ids : List Nat}, Ctx.find (ids.map fun i => (i, some (0, []))) id = some (lv, J) → lv = 0 ∧ J = []
  | [], h => by cases h
  | i :: ids, h => by
    simp only [List.map_cons, Ctx.find] at h
    split at h
    · cases h; exact ⟨rfl, rfl⟩
    · exact find_ids h

theorem round_ok (hE : EnvOk P E) (hmx : P.follows .mixedOrders = true) {l l' N : Nat} {rec : Loop} {s : Site} {esc : List Nat} {J Jp : List JI} {an1 an2 : Ann} {ids : List Nat} {vs : List (Nat × HV)} {args : List HV} {args' : List Value}
    (h : roundL l (roundD E P esc s J Jp an1 an2 ids l vs args) H n = some (rv, H')) (hR : Rel I H w) (hgl : ∀ q hb, E.gl q = some hb → I.j hb = some (q, 0)) (hj : I.j l = some (l', 0))
    (hvs : ∀ p ∈ vs, VR I p.2 (rec.tmps.getD p.1 undef)) (hargs : VRs I args args') (hp : rec.params = s.ps) (ha : rec.assign = s.a) (hb : rec.body = s.b)
    (hck : rndChk s J Jp an1 an2 N = true) (hN : N ≤ rec.tmps.size) :
    args'.toArray.size = rec.params.size ∧ RoundIn (FW none) 0 P l' rec.fn ((rec.params.zip args'.toArray).foldl (fun tmps (t, a) => tmps.setIfInBounds t a) rec.tmps) rec.assign rec.body w
        fun e w' => ∃ v I', e = .returned v ∧ VR I' rv v ∧ Rel I' H' w' ∧ Step I H w I' H' w' := by
  simp only [rndChk, Bool.and_eq_true] at hck
  obtain ⟨⟨⟨⟨⟨⟨⟨⟨⟨k1, k2⟩, k3⟩, k4⟩, k5⟩, k6⟩, k7⟩, k8⟩, k9⟩, k10⟩ := hck
  replace k1 := emp_nil k1
  replace k2 := emp_nil k2
  replace k3 := eqL_eq k3
  replace k4 := ndL_nd k4
  replace k5 := ltL_lt k5
  replace k6 := ltL_lt k6
  replace k7 := ltL_lt k7
  replace k8 := emp_nil k8
  replace k9 := emp_nil k9
  unfold roundL at h
  generalize hm : roundD E P esc s J Jp an1 an2 ids l vs args H n = m at h
  cases m with
  | none => cases h
  | some lh =>
  replace hm : app (gdS (jslots J) vs fun vs' => setJ J vs' ⟨.nil, .bar 0 .nil⟩ fun S => setJ Jp args S fun S1 =>
    den E P (fun d => mem d esc) [] s.a an1 0 [] S1 fun S2 => busyL l (den E P (fun d => mem d esc) [] s.b an2 0 (ids.map fun id => (id, some (0, []))) S2 fun _ => ret (.norm []))) H n = some lh := hm
  unfold gdS at hm
  split at hm
  case h_2 => exact (stk_some (H := H) (n := n) (r := lh) hm).elim
  rename_i hfst
  replace hfst := of_decide_eq_true hfst
  obtain ⟨S, s1, s2⟩ := setJ_some hm
  obtain ⟨S1, t1, t2⟩ := setJ_some s2
  obtain ⟨_, z1, z2⟩ := setS_zip k1 s1
  obtain ⟨y0, y1, y2⟩ := setS_zip k2 t1
  have hzip : (jslots J).zip (vs.map Prod.snd) = vs := by
    rw [← hfst]
    exact zip_fs vs
  refine ⟨by rw [hp, ← Array.length_toList (xs := s.ps), ← k3, ← y0, List.size_toArray]; exact hargs.length, ?_⟩
  refine roundIn_of_wpIn trivial ?_
  rw [ha, hb, hp]
  show s.a.wpIn (FW (some l')) 0 P _ _ w
  obtain ⟨T0, hT0⟩ : ∃ T0, T0 = (s.ps.zip args'.toArray).foldl (fun tmps (p : Nat × Value) => tmps.setIfInBounds p.1 p.2) rec.tmps := ⟨_, rfl⟩
  have hT0' : T0 = ((jslots Jp).zip args').foldl (fun tmps (p : Nat × Value) => tmps.setIfInBounds p.1 p.2) rec.tmps := by
    rw [hT0, ← Array.foldl_toList, Array.toList_zip, k3]
  obtain ⟨g1, g2, g3⟩ := fold_get (jslots Jp) args' rec.tmps
  rw [← hT0'] at g1 g2 g3
  have hI : Inv E P I H w { nt := T0.size, bars := [] } (fun _ => none) I H w S1 { tmps := T0, defers := [] } := by
    have hB : ∀ d, S1.B.get d = none := by rw [y1, z1]; intro d; rfl
    refine ⟨.refl I H w, hR, fun t => ?_, ⟨fun d cs h => ?_, fun d1 d2 b h => ?_, fun d b h => ?_⟩, fun d b h => ?_, hgl, rfl, fun b hb => (by cases hb), Marks.nil⟩
    · show SVR I (fun _ => none) S1.B (S1.F.get t) (T0.getD t undef)
      by_cases hin : t ∈ jslots Jp
      · obtain ⟨u, u1, u2⟩ := y2 t hin
        rw [u2]
        obtain ⟨i, hi⟩ := List.mem_iff_getElem?.1 u1
        rw [List.getElem?_zip_eq_some] at hi
        obtain ⟨v, v1, v2⟩ := hargs.get hi.2
        rw [g3 k4 (fun t ht => Nat.lt_of_lt_of_le (k5 t ht) hN) t v (List.mem_iff_getElem?.2 ⟨i, by rw [List.getElem?_zip_eq_some]; exact ⟨hi.1, v1⟩⟩)]
        exact v2
      · rw [setS_other t1 t hin, g1 t hin]
        by_cases hin2 : t ∈ jslots J
        · obtain ⟨u, u1, u2⟩ := z2 t hin2
          rw [u2]
          rw [hzip] at u1
          exact hvs _ u1
        · rw [setS_other s1 t hin2]; trivial
    · rw [hB] at h; cases h
    · rw [hB] at h; exact absurd rfl h
    · rw [hB] at h; exact absurd rfl h
    · rw [hB] at h; exact absurd rfl h
  have hsz : ∀ t, t < N → t < T0.size := fun t ht => by rw [g2]; omega
  have hS0 : ∀ {c : Code} {an : Ann} {nt : Nat}, sites c an = [] → siteOk (some l') nt c an := fun e s hs => by rw [e] at hs; cases hs
  rw [show (s.ps.zip args'.toArray).foldl (fun tmps (x : Tmp × Value) => match x with | (t, a) => tmps.setIfInBounds t a) rec.tmps = T0 from hT0.symm]
  refine den_ok hE hmx s.a an1 0 [] _ (fun t ht => ⟨hsz t (k6 t ht), fun b hb => (by cases hb)⟩) (hS0 k8) (fun b hb => (by cases hb)) t2 hI ?_ (fun id lv J hf => (by cases hf)) ?_
  · -- the round begins
    intro β2 I2 H2 w2 S2 a2 h2 hI2
    have hj2 := hI2.step.le.j _ _ hj
    replace h2 : busyL l (den E P (fun d => mem d esc) [] s.b an2 0 (ids.map fun id => (id, some (0, []))) S2 fun _ => ret (.norm [])) H2 n = some lh := h2
    unfold busyL at h2
    split at h2
    case h_2 => cases h2
    rename_i k3' vs3 st3 pd3 hg2
    split at h2
    case h_2 => cases h2
    obtain ⟨_, r2, hr2, hL2⟩ := hI2.rel.loop _ _ _ _ _ _ _ hj2 hg2
    obtain ⟨e1, e2, e3, e4⟩ := hL2
    refine ⟨_, run_beginRound hr2 e1, ?_⟩
    have hrel3 := hI2.rel.setL hj2 hg2 hr2 .busy pd3
    have hstep3 := Step.setL hj2 hg2 .busy pd3 (.loop { r2 with state := .busy, pending := pd3 }) (w := w2)
    have hI3 := hI2.heapput hstep3 hrel3
    rw [show ({ r2 with state := .busy, pending := pd3 } : Loop) = { r2 with state := .busy } by rw [← e2]] at hI3
    -- how a round ends
    have fin : ∀ {β4 I4 H4 w4 S4 a4} (st4 : LoopState) (jump : Option Code), Inv E P I H w { nt := T0.size, bars := [] } β4 I4 H4 w4 S4 a4 → st4 = (if jump.isNone then .ready else .done) →
        doneL l st4 jump (ret (.bool jump.isNone)) H4 n = some (rv, H') → ∃ v w', (Instr.endRound l' jump).run P w4 = .ok v w' ∧ ∃ u I', Ending.returned v = .returned u ∧ VR I' rv u ∧ Rel I' H' w' ∧ Step I H w I' H' w' := by
      intro β4 I4 H4 w4 S4 a4 st4 jump hI4 hst hd
      unfold doneL at hd
      split at hd
      case h_2 => cases hd
      rename_i k5' vs5 st5 pd5 hg5
      have hj4 := hI4.step.le.j _ _ hj
      obtain ⟨_, r5, hr5, hL5⟩ := hI4.rel.loop _ _ _ _ _ _ _ hj4 hg5
      simp only [ret, Option.some.injEq, Prod.mk.injEq] at hd
      obtain ⟨rfl, rfl⟩ := hd
      refine ⟨_, _, run_endRound jump hr5, _, I4, rfl, VR.bool _, ?_, ?_⟩
      · rw [hst]; exact hI4.rel.setL hj4 hg5 hr5 _ _
      · rw [hst]; exact hI4.step.trans (Step.setL hj4 hg5 _ _ _)
    refine den_ok hE hmx s.b an2 0 _ _ (fun t ht => ⟨hsz t (k7 t ht), fun b hb => (by cases hb)⟩) (hS0 k9) (fun b hb => (by cases hb)) h2 hI3 ?_ ?_ ?_
    · intro β4 I4 H4 w4 S4 a4 h4 hI4
      simp only [ret, Option.some.injEq] at h4
      subst h4
      exact fin .ready none hI4 rfl h
    · intro id lv J4 hf β4 I4 H4 w4 S4 a4 h4 hI4
      obtain ⟨rfl, rfl⟩ := find_ids hf
      obtain ⟨vs4, _, _, rfl⟩ := leafX_some h4
      exact fin .done (some (.exit id)) hI4 rfl h
    · intro _ β4 I4 H4 w4 S4 a4 h4 hI4
      simp only [resD, ret, Option.some.injEq] at h4
      subst h4
      exact fin .done (some .ret) hI4 rfl h
  · intro e; rw [e] at k10; cases k10
end
end Go.Proofs.Ytijppadieomnjaa.HM
