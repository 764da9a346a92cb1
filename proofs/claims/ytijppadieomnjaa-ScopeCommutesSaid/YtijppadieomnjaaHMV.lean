/- What an operation does, whatever follows. Conditions: none (lemmas). -/
import Derived.Test.YtijppadieomnjaaHMU
namespace Go.Proofs.Ytijppadieomnjaa.HM
open Go
set_option linter.unusedSectionVars false
variable [Sites]
section
variable {E : Env} {P : Program} {esc : Nat → Bool} {n : Nat} {H : Heap} {o : Oper} {S : St}

/-- what 'op_does' says. -/
def Did {α : Type} (E : Env) (P : Program) (esc : Nat → Bool) (o : Oper) (S : St) (H : Heap) (n : Nat) (K : SV → St → M α) (r : α × Heap) : Prop :=
  ∃ sv wc H', K sv ⟨S.F, wrB (clOf E esc o S).wB wc S.B⟩ H' n = some r ∧ Does E P esc o S H n sv wc H'

theorem did_pure {α : Type} {K : SV → St → M α} {r : α × Heap} {sv : SV} (hp : Pure E P esc o S n sv) (hc : clOf E esc o S = Cl.no) (hk : K sv S H n = some r) : Did E P esc o S H n K r :=
  ⟨sv, [], H, by rw [hc]; exact hk, Does.of_pure hp hc⟩

theorem did_load {α : Type} {K : SV → St → M α} {r : α × Heap} {t : TypeId} {x : Operand} (ho : o.op = .load t x) (h : loadD P t (S.ev E x) S K H n = some r) : Did E P esc o S H n K r := by
  have hmem : x ∈ o.op.operands.toList := by rw [ho]; simp [Op.operands]
  replace h : app (loadD P t (S.ev E x) S K) H n = some r := h
  unfold loadD at h
  split at h
  · rename_i d off ev
    split at h
    · rename_i cs eb
      obtain ⟨hv, h1, h2⟩ := partA_eq h
      have hc : clOf E esc o S = ⟨some d, none, false, false⟩ := by simp only [clOf, ho, ev]
      refine ⟨_, [], H, by rw [hc]; exact h1, fun _ => rfl, fun K' S2 H2 he hB _ => ?_⟩
      simp only [opD, ho, he x hmem, ev, loadD]
      rw [hc] at hB ⊢
      have hBB := hB d (.inl rfl)
      rw [eb] at hBB
      simp only [hBB]
      exact h2 _ _
    · exact (stk_some h).elim
  · rename_i p ev
    obtain ⟨b, oo, hp, h⟩ := mP_some h
    have hc : clOf E esc o S = ⟨none, none, true, false⟩ := by simp only [clOf, ho, ev]
    split at h
    · rename_i e
      obtain ⟨cs, ro, g1, g2, g3⟩ := ldN_some h
      refine ⟨_, [], H, by rw [hc]; exact Sh1.d_some g3, fun _ => rfl, fun K' S2 H2 he _ hH => ?_⟩
      simp only [opD, ho, he x hmem, ev, loadD]
      rw [hc] at hH ⊢
      rw [mP_eq hp, hH (.inl rfl)]
      simp only [e]
      unfold ldN
      simp only [g1]
      unfold gxN
      rw [gd_true (by simpa using g2)]
      exact Sh1.d_eq g3 _ _
    · rename_i e
      obtain ⟨cs, ro, v, g1, g2, g3⟩ := ldC_some h
      refine ⟨_, [], H, by rw [hc]; exact Sh1.d_some g3, fun _ => rfl, fun K' S2 H2 he _ hH => ?_⟩
      simp only [opD, ho, he x hmem, ev, loadD]
      rw [hc] at hH ⊢
      rw [mP_eq hp, hH (.inl rfl)]
      simp only [e]
      unfold ldC
      simp only [g1]
      unfold gx
      simp only [g2]
      exact Sh1.d_eq g3 _ _
    · exact (stk_some h).elim
  · exact (stk_some h).elim

theorem sc1_eq {α : Type} {v : HV} {m : M α} (h : v.sc = true) (H : Heap) (n : Nat) : sc1 v m H n = m H n := by
  cases v <;> first | rfl | cases h
theorem nt_eq {α : Type} {v : HV} {m : M α} (h : ∀ l, v ≠ .tup l) (H : Heap) (n : Nat) : HM.nt v m H n = m H n := by
  cases v <;> first | rfl | exact absurd rfl (h _)

theorem did_store {α : Type} {K : SV → St → M α} {r : α × Heap} {t : TypeId} {x y : Operand} (ho : o.op = .store t x y) (h : storeD P t (S.ev E x) (S.ev E y) S K H n = some r) : Did E P esc o S H n K r := by
  have hx : x ∈ o.op.operands.toList := by rw [ho]; simp [Op.operands]
  have hy : y ∈ o.op.operands.toList := by rw [ho]; simp [Op.operands]
  replace h : app (storeD P t (S.ev E x) (S.ev E y) S K) H n = some r := h
  unfold storeD at h
  split at h
  · rename_i _ yv ey
    split at h
    · rename_i eag
      split at h
      · rename_i l
        split at h
        · rename_i d off ex
          split at h
          · rename_i cs eb
            obtain ⟨g1, h⟩ := gd_some h
            obtain ⟨g2, h⟩ := gd_some h
            have hc : clOf E esc o S = ⟨none, some d, false, false⟩ := by simp only [clOf, ho, ex]
            refine ⟨_, _, H, by rw [hc]; exact h, fun _ => rfl, fun K' S2 H2 he hB _ => ?_⟩
            simp only [opD, ho, he x hx, he y hy, ex, ey, storeD, eag]
            rw [hc] at hB ⊢
            rw [hB d (.inr rfl), eb]
            simp only
            rw [gd_true g1, gd_true g2]
            rfl
          · exact (stk_some h).elim
        · rename_i p ex
          obtain ⟨b, oo, hp, h⟩ := mP_some h
          obtain ⟨g1, h⟩ := gd_some h
          obtain ⟨cs, g2, g3, h⟩ := stN_some h
          have hc : clOf E esc o S = ⟨none, none, true, true⟩ := by simp only [clOf, ho, ex]
          refine ⟨_, [], _, by rw [hc]; exact h, fun hw => (by rw [hc] at hw; cases hw), fun K' S2 H2 he _ hH => ?_⟩
          simp only [opD, ho, he x hx, he y hy, ex, ey, storeD, eag]
          rw [hc] at hH ⊢
          rw [mP_eq hp, gd_true g1, hH (.inl rfl)]
          unfold stN
          simp only [g2]
          rw [gd_true (by simpa using g3)]
          rfl
        · exact (stk_some h).elim
      · exact (stk_some h).elim
    · rename_i eag
      split at h
      · rename_i d off ex
        split at h
        · rename_i cs eb
          obtain ⟨g1, h⟩ := gd_some h
          obtain ⟨g2, h⟩ := gd_some h
          obtain ⟨g3, h⟩ := sc1_some h
          have hc : clOf E esc o S = ⟨none, some d, false, false⟩ := by simp only [clOf, ho, ex]
          refine ⟨_, _, H, by rw [hc]; exact h, fun _ => rfl, fun K' S2 H2 he hB _ => ?_⟩
          simp only [opD, ho, he x hx, he y hy, ex, ey, storeD, eag]
          rw [hc] at hB ⊢
          rw [hB d (.inr rfl), eb]
          simp only
          rw [gd_true g1, gd_true g2, sc1_eq g3]
          rfl
        · exact (stk_some h).elim
      · rename_i p ex
        obtain ⟨b, oo, hp, h⟩ := mP_some h
        obtain ⟨g1, h⟩ := gd_some h
        obtain ⟨cs, g2, g3, g4, h⟩ := stC_some h
        have hc : clOf E esc o S = ⟨none, none, true, true⟩ := by simp only [clOf, ho, ex]
        refine ⟨_, [], _, by rw [hc]; exact h, fun hw => (by rw [hc] at hw; cases hw), fun K' S2 H2 he _ hH => ?_⟩
        simp only [opD, ho, he x hx, he y hy, ex, ey, storeD, eag]
        rw [hc] at hH ⊢
        rw [mP_eq hp, gd_true g1, hH (.inl rfl)]
        unfold stC
        simp only [g2]
        rw [gd_true (by simpa using g3), sc1_eq g4]
        rfl
      · exact (stk_some h).elim
    · exact (stk_some h).elim
  · exact (stk_some h).elim

/-- new memory, by whichever operation. -/
theorem did_new {α : Type} {K : SV → St → M α} {r : α × Heap} {cs : List HV} (h : newD esc o.dst cs S K H n = some r)
    (hc : ∀ d, o.dst = some d → clOf E esc o S = match esc d with | true => ⟨none, none, true, true⟩ | false => ⟨none, some d, false, false⟩)
    (hop : ∀ {β : Type} (K' : SV → St → M β) (S2 : St) (H2 : Heap), (∀ x ∈ o.op.operands.toList, S2.ev E x = S.ev E x) → opD E P esc o S2 K' H2 n = newD esc o.dst cs S2 K' H2 n) : Did E P esc o S H n K r := by
  replace h : app (newD esc o.dst cs S K) H n = some r := h
  unfold newD at h
  split at h
  · exact (stk_some h).elim
  · rename_i d hd
    have hc := hc d hd
    split at h
    · rename_i he
      simp only [he] at hc
      refine ⟨_, [], _, by rw [hc]; exact h, fun hw => (by rw [hc] at hw; cases hw), fun K' S2 H2 hev _ hH => ?_⟩
      rw [hop K' S2 H2 hev, hd]
      rw [hc] at hH ⊢
      rw [hH (.inl rfl)]
      simp only [newD, he]
      rfl
    · rename_i he
      simp only [he] at hc
      split at h
      · exact (stk_some h).elim
      · rename_i hB
        refine ⟨_, _, H, by rw [hc]; exact h, fun _ => rfl, fun K' S2 H2 hev hB2 _ => ?_⟩
        rw [hop K' S2 H2 hev, hd]
        rw [hc] at hB2 ⊢
        simp only [newD, he]
        rw [hB2 d (.inr rfl), hB]
        rfl

theorem did_build {α : Type} {K : SV → St → M α} {r : α × Heap} {t : TypeId} {m : Nat} {ps : Array (Nat × Operand)} (ho : o.op = .buildSlice t m ps) (h : opD E P esc o S K H n = some r) : Did E P esc o S H n K r := by
  have hps : ∀ (S2 : St), (∀ x ∈ o.op.operands.toList, S2.ev E x = S.ev E x) → partsD E S2 ps.toList = partsD E S ps.toList := by
    intro S2 he
    have : ∀ (l : List (Nat × Operand)), (∀ p ∈ l, S2.ev E p.2 = S.ev E p.2) → partsD E S2 l = partsD E S l := by
      intro l
      induction l with
      | nil => intro _; rfl
      | cons p l ih =>
        intro hl
        obtain ⟨i, x⟩ := p
        simp only [partsD]
        rw [hl (i, x) List.mem_cons_self, ih fun q hq => hl q (List.mem_cons_of_mem _ hq)]
    refine this ps.toList fun p hp => he p.2 ?_
    rw [ho]; simp only [Op.operands]
    exact List.mem_map.2 ⟨p, hp, rfl⟩
  replace h : app (opD E P esc o S K) H n = some r := h
  unfold opD at h
  simp only [ho] at h
  split at h
  · rename_i e hu
    split at h
    · rename_i z l hz hp
      split at h
      · rename_i cs hf
        obtain ⟨hlens, h⟩ := gdLens_some h
        split at h
        · rename_i d hb hd
          split at h
          · rename_i he
            have hc : clOf E esc o S = ⟨none, none, true, true⟩ := by simp only [clOf, ho, hd, he]
            refine ⟨_, [], _, by rw [hc]; exact h, fun hw => (by rw [hc] at hw; cases hw), fun K' S2 H2 hev _ hH => ?_⟩
            simp only [opD, ho, hu, hz, hps S2 hev, hp, hf]
            rw [gdLens_eq hlens]
            simp only [hb, hd, he]
            rw [hc] at hH ⊢
            rw [hH (.inl rfl)]
            rfl
          · rename_i he
            split at h
            · exact (stk_some h).elim
            · rename_i hB
              have hc : clOf E esc o S = ⟨none, some d, false, false⟩ := by simp only [clOf, ho, hd, he]
              refine ⟨_, _, H, by rw [hc]; exact h, fun _ => rfl, fun K' S2 H2 hev hB2 _ => ?_⟩
              simp only [opD, ho, hu, hz, hps S2 hev, hp, hf]
              rw [gdLens_eq hlens]
              simp only [hb, hd, he]
              rw [hc] at hB2 ⊢
              rw [hB2 d (.inr rfl), hB]
              rfl
        · exact (stk_some h).elim
      · exact (stk_some h).elim
    · exact (stk_some h).elim
  · exact (stk_some h).elim

theorem did_mk {α : Type} {K : SV → St → M α} {r : α × Heap} {t : TypeId} {l c : Operand} (ho : o.op = .makeSlice t l c) (h : mkSl P t (S.ev E l) (S.ev E c) S K H n = some r) : Did E P esc o S H n K r := by
  have hl : l ∈ o.op.operands.toList := by rw [ho]; simp [Op.operands]
  have hc' : c ∈ o.op.operands.toList := by rw [ho]; simp [Op.operands]
  have hc : clOf E esc o S = ⟨none, none, true, true⟩ := by simp only [clOf, ho]
  replace h : app (mkSl P t (S.ev E l) (S.ev E c) S K) H n = some r := h
  unfold mkSl at h
  split at h
  · rename_i e lv cv hu el ec
    split at h
    · rename_i z hz
      split at h
      · rename_i hzb
        obtain ⟨g1, h⟩ := gd_some h
        obtain ⟨g2, h⟩ := gd_some h
        obtain ⟨g3, h⟩ := gd_some h
        refine ⟨_, [], _, by rw [hc]; exact h, fun hw => (by rw [hc] at hw; cases hw), fun K' S2 H2 hev _ hH => ?_⟩
        simp only [opD, ho, mkSl, hev l hl, hev c hc', hu, el, ec, hz, hzb]
        rw [hc] at hH ⊢
        rw [gd_true g1, gd_true g2, gd_true g3, hH (.inl rfl)]
        rfl
      · exact (stk_some h).elim
    · exact (stk_some h).elim
  · exact (stk_some h).elim

theorem evs_eq {S2 : St} : ∀ {l : List Operand}, (∀ x ∈ l, S2.ev E x = S.ev E x) → S2.evs E l = S.evs E l
  | [], _ => rfl
  | x :: l, h => by simp only [St.evs]; rw [h x List.mem_cons_self, evs_eq fun y hy => h y (List.mem_cons_of_mem _ hy)]

theorem did_call {α : Type} {K : SV → St → M α} {r : α × Heap} {c : Call} {f : Operand} (ho : o.op = .call c) (hcal : c.callee = .value f) (h : callD P (tgt E S f) (S.evs E c.args.toList) o.type S K H n = some r) : Did E P esc o S H n K r := by
  have hc : clOf E esc o S = ⟨none, none, true, true⟩ := by simp only [clOf, ho, hcal]
  replace h : app (callD P (tgt E S f) (S.evs E c.args.toList) o.type S K) H n = some r := h
  unfold callD at h
  split at h
  · rename_i g args hg hargs
    obtain ⟨rv, H', hg1, h5⟩ := bnd_some h
    refine ⟨_, [], H', by rw [hc]; exact Sh.d_some h5, fun hw => (by rw [hc] at hw; cases hw), fun K' S2 H2 hev _ hH => ?_⟩
    have e1 : S2.evs E c.args.toList = S.evs E c.args.toList := evs_eq fun x hx => hev x (by rw [ho]; simp [Op.operands, Call.operands, hcal]; exact .inr (by simpa using hx))
    have e2 : tgt E S2 f = tgt E S f := by
      have hf : S2.ev E f = S.ev E f := hev f (by rw [ho]; simp [Op.operands, Call.operands, hcal])
      cases f with
      | tmp t => simp only [tgt]; simp only [St.ev] at hf; rw [hf]
      | _ => rfl
    simp only [opD, ho, hcal, callD, e1, e2, hg, hargs]
    rw [hc] at hH ⊢
    rw [hH (.inl rfl)]
    unfold bnd
    simp only [hg1]
    exact Sh.d_eq h5 _ _
  · exact (stk_some h).elim

theorem apd_eq {α : Type} {s : Sl} {sz by_ m : Nat} {vs : List HV} {f : Sl → M α} {r : α × Heap} (h : apd s sz by_ m vs f H n = some r) :
    ∃ s' H', f s' H' n = some r ∧ ∀ {β : Type} (f' : Sl → M β), apd s sz by_ m vs f' H n = f' s' H' n := by
  obtain ⟨hg, h⟩ := gd_some h
  have hu : ∀ {β : Type} (f' : Sl → M β), apd s sz by_ m vs f' H n = (if s.len + m ≤ s.cap then
      match s.p with
      | none => gd (decide (m = 0)) (f' s) H n
      | some (b, o) => stN b (o + s.len * sz) vs (f' { s with len := s.len + m }) H n
    else match s.p with
      | none => gd (decide (s.len = 0)) (nw vs fun b' => f' { p := some (b', 0), len := m, cap := m, opn := some sz }) H n
      | some (b, o) =>
        match H.get b with
        | .cells cs ro =>
          gxN cs o (s.len * sz) (fun old =>
            match s.opn with
            | none => nw (old ++ vs) fun b' => f' { p := some (b', 0), len := s.len + m, cap := s.len + m, opn := some sz }
            | some es => gd (decide (es = sz) && decide (o = 0) && decide (cs.length = s.len * sz) && !ro) (fun H n =>
                nw (old ++ vs) (fun b' => f' { p := some (b', 0), len := s.len + m, cap := s.len + m, opn := some sz }) (H.set b .dead) n)) H n
        | _ => none) := by
    intro β f'
    unfold apd
    rw [gd_true hg]
    rfl
  replace h : apd s sz by_ m vs f H n = some r := by rw [hu]; exact h
  rw [hu] at h
  by_cases hle : s.len + m ≤ s.cap
  · rw [if_pos hle] at h
    cases hp : s.p with
    | none =>
      rw [hp] at h
      obtain ⟨g, h⟩ := gd_some h
      exact ⟨_, _, h, fun f' => by rw [hu, if_pos hle, hp]; simp only; rw [gd_true g]⟩
    | some q =>
      obtain ⟨b, oo⟩ := q
      rw [hp] at h
      obtain ⟨cs, g1, g2, h⟩ := stN_some h
      exact ⟨_, _, h, fun f' => by rw [hu, if_pos hle, hp]; simp only; unfold stN; simp only [g1]; rw [gd_true (by simpa using g2)]⟩
  · rw [if_neg hle] at h
    cases hp : s.p with
    | none =>
      rw [hp] at h
      obtain ⟨g, h⟩ := gd_some h
      exact ⟨_, _, nw_app h, fun f' => by rw [hu, if_neg hle, hp]; simp only; rw [gd_true g]; rfl⟩
    | some q =>
      obtain ⟨b, oo⟩ := q
      rw [hp] at h
      simp only at h
      cases hb : H.get b with
      | dead => rw [hb] at h; cases h
      | loop k vs st pd => rw [hb] at h; cases h
      | cells cs ro =>
        rw [hb] at h
        obtain ⟨g1, h⟩ := gxN_some h
        cases ho : s.opn with
        | none =>
          rw [ho] at h
          have h5 : f { p := some (H.n, 0), len := s.len + m, cap := s.len + m, opn := some sz } (H.push (.cells ((cs.drop oo).take (s.len * sz) ++ vs) false)) n = some r := h
          exact ⟨_, _, h5, fun f' => by rw [hu, if_neg hle, hp]; simp only [hb, ho]; unfold gxN; rw [gd_true (by simpa using g1)]; rfl⟩
        | some es =>
          rw [ho] at h
          obtain ⟨g2, h⟩ := gd_some h
          have h5 : f { p := some (H.n, 0), len := s.len + m, cap := s.len + m, opn := some sz } ((H.set b .dead).push (.cells ((cs.drop oo).take (s.len * sz) ++ vs) false)) n = some r := h
          exact ⟨_, _, h5, fun f' => by rw [hu, if_neg hle, hp]; simp only [hb, ho]; unfold gxN; rw [gd_true (by simpa using g1)]; exact gd_true g2 H n⟩

theorem rdS_eq {α : Type} {s : Sl} {sz : Nat} {f : List HV → M α} {r : α × Heap} (h : rdS s sz f H n = some r) : ∃ vs, f vs H n = some r ∧ ∀ {β : Type} (f' : List HV → M β), rdS s sz f' H n = f' vs H n := by
  rcases rdS_some h with ⟨h1, h2, h3⟩ | ⟨b, oo, cs, ro, h1, h2, h3, h4⟩
  · exact ⟨_, h3, fun f' => by unfold rdS; rw [h1]; simp only; rw [gd_true (by simpa using h2)]⟩
  · exact ⟨_, h4, fun f' => by unfold rdS; rw [h1]; simp only; unfold ldN; simp only [h2]; unfold gxN; rw [gd_true (by simpa using h3)]⟩

theorem did_app {α : Type} {K : SV → St → M α} {r : α × Heap} {c : Call} {t t' : TypeId} {x y : Operand} (ho : o.op = .call c) (hcal : c.callee = .builtin .append) (h0 : c.argTypes[0]? = some t) (h1 : c.argTypes[1]? = some t') (h2 : c.args[0]? = some x) (h3 : c.args[1]? = some y)
    (hb : (Nat.beq t t' && Nat.beq c.argTypes.size 2 && Nat.beq c.args.size 2) = true) (h : appD P t (S.ev E x) (S.ev E y) S K H n = some r) : Did E P esc o S H n K r := by
  have hx : x ∈ o.op.operands.toList := by rw [ho]; simp only [Op.operands, Call.operands, hcal]; simpa using Array.mem_of_getElem? h2
  have hy : y ∈ o.op.operands.toList := by rw [ho]; simp only [Op.operands, Call.operands, hcal]; simpa using Array.mem_of_getElem? h3
  replace h : app (appD P t (S.ev E x) (S.ev E y) S K) H n = some r := h
  unfold appD at h
  split at h
  · rename_i e s hu ex
    split at h
    · rename_i z hz
      split at h
      · rename_i hzl
        replace h : app (tailD (sizeT P e) (S.ev E y) S fun m vs => apd s (sizeT P e) (bytesT P e) m vs fun s' => K (.v (.sl s')) S) H n = some r := h
        unfold tailD at h
        split at h
        · rename_i d m ey
          split at h
          · rename_i cs eb
            replace h : apd s (sizeT P e) (bytesT P e) m cs (fun s' => K (.v (.sl s')) S) H n = some r := h
            obtain ⟨s', H', q1, q2⟩ := apd_eq h
            have hc : clOf E esc o S = ⟨some d, none, true, true⟩ := by simp only [clOf, ho, hcal, h3, ey]
            refine ⟨_, [], H', by rw [hc]; exact q1, fun hw => (by rw [hc] at hw; cases hw), fun K' S2 H2 hev hB hH => ?_⟩
            simp only [opD, ho, hcal, h0, h1, h2, h3, hb, hev x hx, hev y hy, appD, hu, ex, hz, hzl, tailD, ey]
            rw [hc] at hH hB ⊢
            have hBB := hB d (.inl rfl)
            rw [eb] at hBB
            rw [hH (.inl rfl)]
            simp only [hBB]
            exact q2 _
          · exact (stk_some h).elim
        · rename_i s2 ey
          obtain ⟨vs, h5, h6⟩ := rdS_eq h
          replace h5 : apd s (sizeT P e) (bytesT P e) s2.len vs (fun s' => K (.v (.sl s')) S) H n = some r := h5
          obtain ⟨s', H', q1, q2⟩ := apd_eq h5
          have hc : clOf E esc o S = ⟨none, none, true, true⟩ := by simp only [clOf, ho, hcal, h3, ey]
          refine ⟨_, [], H', by rw [hc]; exact q1, fun hw => (by rw [hc] at hw; cases hw), fun K' S2 H2 hev hB hH => ?_⟩
          simp only [opD, ho, hcal, h0, h1, h2, h3, hb, hev x hx, hev y hy, appD, hu, ex, hz, hzl, tailD, ey]
          rw [hc] at hH hB ⊢
          rw [hH (.inl rfl), h6]
          exact q2 _
        · exact (stk_some h).elim
      · exact (stk_some h).elim
    · exact (stk_some h).elim
  · exact (stk_some h).elim

theorem strM_eq {α : Type} {vs : List HV} {ns : List Int} {f : ByteArray → M α} (h : bytesH vs = some ns) (H : Heap) (n : Nat) : strM vs f H n = f (strB ns) H n := by unfold strM; rw [h]
theorem did_str {α : Type} {K : SV → St → M α} {r : α × Heap} {s d : TypeId} {x : Operand} (ho : o.op = .convert s d x) (hb : bytesSrc P s d = true) (h : strD (S.ev E x) S K H n = some r) : Did E P esc o S H n K r := by
  have hx : x ∈ o.op.operands.toList := by rw [ho]; simp [Op.operands]
  replace h : app (tailD 1 (S.ev E x) S fun m vs => gd (decide (vs.length = m)) (strM vs fun s => K (.v (.str s)) S)) H n = some r := h
  unfold tailD at h
  split at h
  · rename_i bd m ey
    split at h
    · rename_i cs eb
      obtain ⟨g, h⟩ := gd_some h
      obtain ⟨ns, hn, h⟩ := strM_some h
      have hc : clOf E esc o S = ⟨some bd, none, false, false⟩ := by simp only [clOf, ho, ey]
      refine ⟨_, [], H, by rw [hc]; exact h, fun _ => rfl, fun K' S2 H2 hev hB hH => ?_⟩
      simp only [opD, ho, hb, hev x hx, strD, tailD, ey]
      rw [hc] at hB ⊢
      have hBB := hB bd (.inl rfl)
      rw [eb] at hBB
      simp only [hBB]
      rw [gd_true g, strM_eq hn]; rfl
    · exact (stk_some h).elim
  · rename_i s2 ey
    obtain ⟨vs, h5, h6⟩ := rdS_eq h
    obtain ⟨g, h5⟩ := gd_some h5
    obtain ⟨ns, hn, h5⟩ := strM_some h5
    have hc : clOf E esc o S = ⟨none, none, true, false⟩ := by simp only [clOf, ho, ey]
    refine ⟨_, [], H, by rw [hc]; exact h5, fun _ => rfl, fun K' S2 H2 hev hB hH => ?_⟩
    simp only [opD, ho, hb, hev x hx, strD, tailD, ey]
    rw [hc] at hH ⊢
    rw [hH (.inl rfl), h6, gd_true g, strM_eq hn]; rfl
  · exact (stk_some h).elim

/-- what an operation does is told by its operands, its boxes, and the heap. -/
theorem op_does {α : Type} {K : SV → St → M α} {r : α × Heap} (h : opD E P esc o S K H n = some r) : Did E P esc o S H n K r := by
  have h0 := h
  replace h : app (opD E P esc o S K) H n = some r := h
  unfold opD at h
  simp only at h
  split at h
  case h_1 x ho =>
    have hx : x ∈ o.op.operands.toList := by rw [ho]; simp [Op.operands]
    exact did_pure (fun K' S2 H2 he => by simp only [opD, ho, he x hx]) (by simp only [clOf, ho]; rfl) h
  case h_2 x ho =>
    have hx : x ∈ o.op.operands.toList := by rw [ho]; simp [Op.operands]
    exact did_pure (fun K' S2 H2 he => by simp only [opD, ho, he x hx]) (by simp only [clOf, ho]; rfl) h
  case h_3 c x y ho =>
    have hc : c ∈ o.op.operands.toList := by rw [ho]; simp [Op.operands]
    have hx : x ∈ o.op.operands.toList := by rw [ho]; simp [Op.operands]
    have hy : y ∈ o.op.operands.toList := by rw [ho]; simp [Op.operands]
    have hcl : clOf E esc o S = Cl.no := by simp only [clOf, ho]; rfl
    split at h
    · rename_i b ec
      split at h
      · rename_i u v eu ev
        exact did_pure (fun K' S2 H2 he => by simp only [opD, ho, he c hc, he x hx, he y hy, ec, eu, ev]) hcl h
      · rename_i hne
        cases b
        · refine did_pure (sv := S.ev E y) (fun K' S2 H2 he => ?_) hcl h
          simp only [opD, ho, he c hc, he x hx, he y hy, ec]
          rfl
        · refine did_pure (sv := S.ev E x) (fun K' S2 H2 he => ?_) hcl h
          simp only [opD, ho, he c hc, he x hx, he y hy, ec]
          rfl
    · exact (stk_some h).elim
  case h_4 t x ho => exact did_load ho h
  case h_5 t x y ho => exact did_store ho h
  case h_6 t ho =>
    split at h
    · rename_i cs hz
      exact did_new h (fun d hd => by simp only [clOf, ho, hd]; rfl) (fun K' S2 H2 _ => by simp only [opD, ho, hz])
    · exact (stk_some h).elim
  case h_7 t x ho =>
    have hx : x ∈ o.op.operands.toList := by rw [ho]; simp [Op.operands]
    split at h
    · rename_i hv ex
      obtain ⟨g, h⟩ := nt_some h
      exact did_new h (fun d hd => by simp only [clOf, ho, hd]; rfl) (fun K' S2 H2 he => by simp only [opD, ho, he x hx, ex]; exact nt_eq g _ _)
    · exact (stk_some h).elim
  case h_8 t ps ho =>
    have hps : ∀ (S2 : St), (∀ x ∈ o.op.operands.toList, S2.ev E x = S.ev E x) → partsD E S2 ps.toList = partsD E S ps.toList := by
      intro S2 he
      have : ∀ (l : List (Nat × Operand)), (∀ p ∈ l, S2.ev E p.2 = S.ev E p.2) → partsD E S2 l = partsD E S l := by
        intro l
        induction l with
        | nil => intro _; rfl
        | cons p l ih =>
          intro hl
          obtain ⟨i, x⟩ := p
          simp only [partsD]
          rw [hl (i, x) List.mem_cons_self, ih fun q hq => hl q (List.mem_cons_of_mem _ hq)]
      refine this ps.toList fun p hp => he p.2 ?_
      rw [ho]; simp only [Op.operands]
      exact List.mem_map.2 ⟨p, hp, rfl⟩
    have hcl : clOf E esc o S = Cl.no := by simp only [clOf, ho]; rfl
    split at h
    · rename_i fs z l hu hz hp
      split at h
      · rename_i cs hall hf
        obtain ⟨hlens, h⟩ := gdLens_some h
        exact did_pure (fun K' S2 H2 he => by simp only [opD, ho, hu, hz, hps S2 he, hp, hall, hf]; exact gdLens_eq hlens) hcl h
      · exact (stk_some h).elim
    · rename_i m e z l hu hz hp
      split at h
      · rename_i cs hie hf
        obtain ⟨hlens, h⟩ := gdLens_some h
        exact did_pure (fun K' S2 H2 he => by simp only [opD, ho, hu, hz, hps S2 he, hp, hie, hf]; exact gdLens_eq hlens) hcl h
      · exact (stk_some h).elim
    · exact (stk_some h).elim
  case h_9 t m ps ho => exact did_build ho h0
  case h_10 x ho =>
    have hx : x ∈ o.op.operands.toList := by rw [ho]; simp [Op.operands]
    have hcl : clOf E esc o S = Cl.no := by simp only [clOf, ho]; rfl
    split at h
    · rename_i d off ex
      exact did_pure (fun K' S2 H2 he => by simp only [opD, ho, he x hx, ex]) hcl h
    · rename_i p ex
      obtain ⟨b, oo, hp, h⟩ := mP_some h
      exact did_pure (fun K' S2 H2 he => by simp only [opD, ho, he x hx, ex]; rw [mP_eq hp]) hcl h
    · exact (stk_some h).elim
  case h_11 t x f ho =>
    have hx : x ∈ o.op.operands.toList := by rw [ho]; simp [Op.operands]
    have hcl : clOf E esc o S = Cl.no := by simp only [clOf, ho]; rfl
    split at h
    · rename_i fs hu
      split at h
      · rename_i fd hf
        split at h
        · rename_i d off hb ex
          exact did_pure (fun K' S2 H2 he => by simp only [opD, ho, he x hx, hu, hf, hb, ex]) hcl h
        · rename_i p hb ex
          obtain ⟨b, oo, hp, h⟩ := mP_some h
          exact did_pure (fun K' S2 H2 he => by simp only [opD, ho, he x hx, hu, hf, hb, ex]; rw [mP_eq hp]) hcl h
        · exact (stk_some h).elim
      · exact (stk_some h).elim
    · exact (stk_some h).elim
  case h_12 t x f ho =>
    have hx : x ∈ o.op.operands.toList := by rw [ho]; simp [Op.operands]
    have hcl : clOf E esc o S = Cl.no := by simp only [clOf, ho]; rfl
    split at h
    · rename_i fs cs hu ex
      split at h
      · rename_i fd hf
        obtain ⟨hv, h1, h2⟩ := partA_eq h
        exact did_pure (fun K' S2 H2 he => by simp only [opD, ho, he x hx, hu, hf, ex]; exact h2 _ _) hcl h1
      · exact (stk_some h).elim
    · exact (stk_some h).elim
  case h_13 t x i ho =>
    have hx : x ∈ o.op.operands.toList := by rw [ho]; simp [Op.operands]
    have hi : i ∈ o.op.operands.toList := by rw [ho]; simp [Op.operands]
    obtain ⟨sv, h1, h2⟩ := goes_idx t _ _ h
    exact did_pure (fun K' S2 H2 he => by simp only [opD, ho, he x hx, he i hi]; exact h2 K' S2 H2) (by simp only [clOf, ho]; rfl) h1
  case h_14 t x i ho =>
    have hx : x ∈ o.op.operands.toList := by rw [ho]; simp [Op.operands]
    have hi : i ∈ o.op.operands.toList := by rw [ho]; simp [Op.operands]
    have hcl : clOf E esc o S = Cl.no := by simp only [clOf, ho]; rfl
    split at h
    · rename_i m e cs k iv hu ex ei
      obtain ⟨g1, h⟩ := gd_some h
      obtain ⟨g2, h⟩ := gd_some h
      obtain ⟨hv, h1, h2⟩ := partA_eq h
      exact did_pure (fun K' S2 H2 he => by simp only [opD, ho, he x hx, he i hi, hu, ex, ei]; rw [gd_true g1, gd_true g2]; exact h2 _ _) hcl h1
    · rename_i s k iv hu ex ei
      obtain ⟨g1, h⟩ := gd_some h
      obtain ⟨g2, h⟩ := gd_some h
      exact did_pure (fun K' S2 H2 he => by simp only [opD, ho, he x hx, he i hi, hu, ex, ei]; rw [gd_true g1, gd_true g2]) hcl h
    · exact (stk_some h).elim
  case h_15 op t x y u ho =>
    have hx : x ∈ o.op.operands.toList := by rw [ho]; simp [Op.operands]
    have hy : y ∈ o.op.operands.toList := by rw [ho]; simp [Op.operands]
    obtain ⟨sv, h1, h2⟩ := goes_bin op t _ _ h
    exact did_pure (fun K' S2 H2 he => by simp only [opD, ho, he x hx, he y hy]; exact h2 K' S2 H2) (by simp only [clOf, ho]; rfl) h1
  case h_16 op t x ho =>
    have hx : x ∈ o.op.operands.toList := by rw [ho]; simp [Op.operands]
    obtain ⟨sv, h1, h2⟩ := goes_un op _ h
    exact did_pure (fun K' S2 H2 he => by simp only [opD, ho, he x hx]; exact h2 K' S2 H2) (by simp only [clOf, ho]; rfl) h1
  case h_17 s d x ho =>
    have hx : x ∈ o.op.operands.toList := by rw [ho]; simp [Op.operands]
    split at h
    · rename_i hb; exact did_str ho hb h
    · rename_i hb
      have hcl : clOf E esc o S = Cl.no := by
        replace h : app (convD P s d (S.ev E x) S K) H n = some r := h
        unfold convD at h
        split at h
        · rename_i va ex
          split at h
          · simp only [clOf, ho, ex]; rfl
          · simp only [clOf, ho, ex]; rfl
          · exact (stk_some h).elim
        · exact (stk_some h).elim
      obtain ⟨sv, h1, h2⟩ := goes_conv s d _ h
      exact did_pure (fun K' S2 H2 he => by simp only [opD, ho, hb, he x hx]; exact h2 K' S2 H2) hcl h1
  case h_18 t l c ho => exact did_mk ho h
  case h_19 t x l hh m ho =>
    have hx : x ∈ o.op.operands.toList := by rw [ho]; simp [Op.operands]
    split at h
    · exact (stk_some h).elim
    · rename_i hne
      obtain ⟨sv, h1, h2⟩ := goes_slc t _ _ _ _ h
      refine did_pure (fun K' S2 H2 he => ?_) (by simp only [clOf, ho]; rfl) h1
      have e1 : l.map (S2.ev E) = l.map (S.ev E) := by cases l with | none => rfl | some q => simp [he q (by rw [ho]; simp [Op.operands])]
      have e2 : hh.map (S2.ev E) = hh.map (S.ev E) := by cases hh with | none => rfl | some q => simp [he q (by rw [ho]; simp [Op.operands])]
      have e3 : m.map (S2.ev E) = m.map (S.ev E) := by cases m with | none => rfl | some q => simp [he q (by rw [ho]; simp [Op.operands])]
      simp only [opD, ho, he x hx, e1, e2, e3]
      exact h2 K' S2 H2
  case h_20 f x y ho =>
    split at h
    · rename_i ea eb e1 e2
      refine did_pure (fun K' S2 H2 he => ?_) (by simp only [clOf, ho]; rfl) h
      have q1 : S2.evs E x.toList = S.evs E x.toList := evs_eq fun z hz => he z (by rw [ho]; simp [Op.operands]; exact .inl (by simpa using hz))
      have q2 : S2.evs E y.toList = S.evs E y.toList := evs_eq fun z hz => he z (by rw [ho]; simp [Op.operands]; exact .inr (by simpa using hz))
      simp only [opD, ho, q1, q2, e1, e2]
    · exact (stk_some h).elim
  case h_21 x i ho =>
    have hx : x ∈ o.op.operands.toList := by rw [ho]; simp [Op.operands]
    split at h
    · rename_i vs ex
      split at h
      · rename_i v hv
        exact did_pure (fun K' S2 H2 he => by simp only [opD, ho, he x hx, ex, hv]) (by simp only [clOf, ho]; rfl) h
      · exact (stk_some h).elim
    · exact (stk_some h).elim
  case h_22 c ho =>
    split at h
    · rename_i hc
      have hcl : clOf E esc o S = Cl.no := by simp only [clOf, ho, hc]; rfl
      split at h
      · rename_i t x h0 h1
        have hx : x ∈ o.op.operands.toList := by rw [ho]; simp only [Op.operands, Call.operands, hc]; simpa using Array.mem_of_getElem? h1
        obtain ⟨sv, q1, q2⟩ := goes_len t _ h
        exact did_pure (fun K' S2 H2 he => by simp only [opD, ho, hc, h0, h1, he x hx]; exact q2 K' S2 H2) hcl q1
      · exact (stk_some h).elim
    · rename_i hc
      split at h
      · rename_i t t' s x h0 h1 h2 h3
        split at h
        · rename_i hb; exact did_app ho hc h0 h1 h2 h3 hb h
        · exact (stk_some h).elim
      · exact (stk_some h).elim
    · rename_i hc
      have hcl : clOf E esc o S = Cl.no := by simp only [clOf, ho, hc]; rfl
      split at h
      · rename_i x y h0 h1 h2
        have hx : x ∈ o.op.operands.toList := by rw [ho]; simp only [Op.operands, Call.operands, hc]; simpa using Array.mem_of_getElem? h0
        have hy : y ∈ o.op.operands.toList := by rw [ho]; simp only [Op.operands, Call.operands, hc]; simpa using Array.mem_of_getElem? h1
        split at h
        · rename_i k u k' v ex ey
          obtain ⟨g, h⟩ := gd_some h
          exact did_pure (fun K' S2 H2 he => by simp only [opD, ho, hc, h0, h1, h2, he x hx, he y hy, ex, ey]; rw [gd_true g]) hcl h
        · exact (stk_some h).elim
      · exact (stk_some h).elim
    · rename_i hc
      have hcl : clOf E esc o S = Cl.no := by simp only [clOf, ho, hc]; rfl
      split at h
      · rename_i x y h0 h1 h2
        have hx : x ∈ o.op.operands.toList := by rw [ho]; simp only [Op.operands, Call.operands, hc]; simpa using Array.mem_of_getElem? h0
        have hy : y ∈ o.op.operands.toList := by rw [ho]; simp only [Op.operands, Call.operands, hc]; simpa using Array.mem_of_getElem? h1
        split at h
        · rename_i k u k' v ex ey
          obtain ⟨g, h⟩ := gd_some h
          exact did_pure (fun K' S2 H2 he => by simp only [opD, ho, hc, h0, h1, h2, he x hx, he y hy, ex, ey]; rw [gd_true g]) hcl h
        · exact (stk_some h).elim
      · exact (stk_some h).elim
    · rename_i f hc; exact did_call ho hc h
    · exact (stk_some h).elim
  case h_23 => exact (stk_some h).elim
end
end Go.Proofs.Ytijppadieomnjaa.HM
