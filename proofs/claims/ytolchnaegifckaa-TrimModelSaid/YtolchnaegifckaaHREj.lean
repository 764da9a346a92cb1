/- trim.Moved, the document's Ahead, the iterator trim.Idle. Conditions: none (lemmas). -/
import Derived.Test.YtolchnaegifckaaHREe
namespace Go.Proofs.Ytolchnaegifckaa.HR
open Go

theorem wp_ldCg {α : Type} {Q : α → Heap → Prop} {H : Heap} {b o : Nat} {cs : List HV} {ro : Bool} {v : HV} {f : HV → M α} (hb : H.get b = .cells cs ro) (ho : cs[o]? = some v) (h : wp (f v) Q H) : wp (ldC b o f) Q H :=
  wp_of (fun n => by unfold ldC; rw [hb]; unfold gx; simp only [ho]) h

theorem trim_Moved_wp {D : HV → List HV → M HV} {H : Heap} {Q : HV → Heap → Prop} {s : Sl} {p : List Ins} (hs : RProg H s p) (hf : ∀ x ∈ p, IFit x) {a : Int}
    (h1 : CanB p → ∀ k : Nat, a = k → k ≤ p.length → ∀ H', Keeps H H' → Q (I (keptN (idleL p) k)) H') (h2 : ¬ (CanB p ∧ 0 ≤ a ∧ a ≤ p.length) → ∀ H', Keeps H H' → Q (I (-1)) H') : wp (f_trim_Moved D [.sl s, I a]) Q H := by
  unfold f_trim_Moved
  have hlen := hs.lenI
  with_reducible repeat' (first | refine wp_finF ?_ | refine wp_uA ?_ | refine wp_uI ?_ | refine wp_uB ?_ | refine wp_uL ?_ | refine wp_uS ?_ | refine wp_uP ?_ | refine wp_uc ?_ | refine wp_nl ?_ | refine wp_asB ?_ | refine wp_asI ?_ | refine wp_asSl ?_ | refine wp_asT ?_ | refine wp_asA ?_ | refine wp_asS ?_ | refine wp_asP ?_ | refine wp_nN ?_ | refine wp_rN ?_ | refine wp_xN ?_ | refine wp_nB ?_ | refine wp_rB ?_ | refine wp_xB rfl ?_ | refine wp_xB' rfl ?_ | refine wp_bB ?_ | refine wp_rX ?_ | refine wp_xX ?_ | refine wp_rE ?_ | refine wp_xE ?_ | refine wp_rR ?_ | refine wp_xR ?_ | refine wp_r0 ?_ | refine wp_x0 ?_ | refine wp_rF ?_ | refine wp_rF0 ?_ | refine wp_rF2 ?_ | refine wp_rF3 ?_ | refine wp_rF4 ?_ | refine wp_condT ?_ | refine wp_condF ?_ | refine wp_condNT ?_ | refine wp_condNF ?_)
  have key : ∀ (y : Int) (t : Int) H1, Keeps H H1 → (t = 0 ↔ CanB p) → wp (jn (
      cond (t != 0) (
      ret (.norm [.bool true])) (
      cond (decide (a < 0)) (
      ret (.norm [.bool true])) (
      ret (.norm [.bool (decide (a > (s.len : Int)))])))) fun vs =>
      uB vs fun x23 r_5 =>
      nl r_5 (
      cond x23 (
      ret (.ret [I (-1)])) (
      bnd (f_trim_idle D [.sl s]) fun r_6 =>
      asSl r_6 fun x25 =>
      bnd (f_trim_places D [.sl x25]) fun r_7 =>
      asSl r_7 fun x26 =>
      ix x26 a 1 fun x28b x28o =>
      ldC x28b x28o fun v => asI .i64 v fun x29 =>
      ret (.ret [I x29])))) (PFin Q) H1 := by
    intro y t H1 hk ht
    refine wp_jnP (¬ (CanB p ∧ 0 ≤ a ∧ a ≤ p.length)) ?_ (fun hh => ?_) (fun hh => ?_)
    · refine wp_condNE (fun c => ?_) (fun c => wp_condD (fun c2 => ?_) (fun c2 => ?_))
      · exact wp_bB ⟨fun _ hh => c (ht.2 hh.1), fun _ => rfl⟩
      · refine wp_bB ?_
        constructor
        · intro _ hh; omega
        · intro _; rfl
      · refine wp_bB ?_
        have := ht.1 c
        rw [decide_eq_true_eq, hlen]
        constructor
        · intro h1 h2; omega
        · intro h1
          by_cases e : a > (p.length : Int)
          · exact e
          · exact absurd ⟨this, by omega, by omega⟩ h1
    · refine wp_uB (wp_nl (wp_condT (wp_rF ?_)))
      exact h2 hh H1 hk
    · have hh := Classical.not_not.1 hh
      obtain ⟨hc, h3, h4⟩ := hh
      obtain ⟨k, rfl⟩ : ∃ k : Nat, a = k := ⟨a.toNat, by omega⟩
      have h48 := hc.len
      refine wp_uB (wp_nl (wp_condF ?_))
      refine wp_bnd (trim_idle_wp (hs.keeps hk) hf hc fun b H2 hk2 hb hB => wp_asSl ?_)
      have hR := hB.rows
      rw [idleL_len] at hR
      refine wp_bnd (trim_places_wp hR (by rw [idleL_len]; omega) fun b2 H3 w hk3 _ hwl hws hN => wp_asSl ?_)
      rw [idleL_len] at hwl
      refine wp_numgetN hN rfl (i := k) (by omega) fun _ _ => wp_asI (wp_rF ?_)
      have := hws k (by rw [idleL_len]; omega)
      rw [List.getElem?_eq_getElem (by omega)] at this
      rw [Option.some.inj this]
      exact h1 hc k rfl (by omega) H3 ((hk.trans hk2).trans hk3)
  refine wp_bnd (code_Check_wp hs hf (fun hn => ?_) (fun hc H' k => ?_) (fun _ hc i H' k => ?_))
  · refine wp_asT (wp_uI (wp_uI (wp_nl ?_)))
    exact key 0 _ _ (Keeps.refl _) ⟨fun e => (by cases e), fun hh => by have := hh.len; omega⟩
  · refine wp_asT (wp_uI (wp_uI (wp_nl ?_)))
    exact key 0 _ _ k ⟨fun _ => canC_iff.1 hc, fun _ => rfl⟩
  · refine wp_asT (wp_uI (wp_uI (wp_nl ?_)))
    exact key 0 _ _ k ⟨fun e => (by cases e), fun hh => absurd (canC_iff.2 hh) hc⟩

end Go.Proofs.Ytolchnaegifckaa.HR
namespace Go.Proofs.Ytolchnaegifckaa.HR
open Go

/-- an instruction whose goal has moved. -/
def movedI (bs : List Bool) (x : Ins) : Ins := if x.op = 3 ∨ x.op = 20 then { x with a := (keptN bs x.a.toNat : Int) } else x
def trimG (bs : List Bool) (p : List Ins) : Nat → List Ins
  | 0 => []
  | i + 1 => trimG bs p i ++ match p[i]? with
    | some x => if bs.getD i false then [] else [movedI bs x]
    | none => []
theorem trimG_succ {bs : List Bool} {p : List Ins} {i : Nat} (hi : i < p.length) : trimG bs p (i + 1) = trimG bs p i ++ if bs.getD i false then [] else [movedI bs p[i]] := by
  simp only [trimG, List.getElem?_eq_getElem hi]
theorem trimG_len {bs : List Bool} {p : List Ins} (hb : bs.length = p.length) : ∀ {i : Nat}, i ≤ p.length → (trimG bs p i).length = keptN bs i
  | 0, _ => by simp [trimG, keptN]
  | i + 1, hi => by
    have hi' : i < p.length := hi
    rw [trimG_succ hi', List.length_append, trimG_len hb (by omega), keptN_succ (by omega), getD_of (by omega)]
    cases bs[i]'(by omega) <;> simp
/-- once. -/
noncomputable def trim1 (p : List Ins) : List Ins := trimG (idleL p) p p.length

theorem trim_Once_wp {D : HV → List HV → M HV} {H : Heap} {Q : HV → Heap → Prop} {s : Sl} {p : List Ins} (hs : RProg H s p) (hf : ∀ x ∈ p, IFit x) (hc : CanB p)
    (h : ∀ s' H', Keeps H H' → RProg H' s' (trim1 p) → Q (.tup [.sl s', I ((p.length : Int) - (trim1 p).length)]) H') : wp (f_trim_Once D [.sl s]) Q H := by
  unfold f_trim_Once
  have h48 := hc.len
  with_reducible repeat' (first | refine wp_finF ?_ | refine wp_uA ?_ | refine wp_uI ?_ | refine wp_uB ?_ | refine wp_uL ?_ | refine wp_uS ?_ | refine wp_uP ?_ | refine wp_uc ?_ | refine wp_nl ?_ | refine wp_asB ?_ | refine wp_asI ?_ | refine wp_asSl ?_ | refine wp_asT ?_ | refine wp_asA ?_ | refine wp_asS ?_ | refine wp_asP ?_ | refine wp_nN ?_ | refine wp_rN ?_ | refine wp_xN ?_ | refine wp_nB ?_ | refine wp_rB ?_ | refine wp_xB rfl ?_ | refine wp_xB' rfl ?_ | refine wp_bB ?_ | refine wp_rX ?_ | refine wp_xX ?_ | refine wp_rE ?_ | refine wp_xE ?_ | refine wp_rR ?_ | refine wp_xR ?_ | refine wp_r0 ?_ | refine wp_x0 ?_ | refine wp_rF ?_ | refine wp_rF0 ?_ | refine wp_rF2 ?_ | refine wp_rF3 ?_ | refine wp_rF4 ?_ | refine wp_condT ?_ | refine wp_condF ?_ | refine wp_condNT ?_ | refine wp_condNF ?_)
  refine wp_bnd (trim_idle_wp hs hf hc fun b H1 hk1 hb1 hB => wp_asSl ?_)
  have hR := hB.rows
  rw [idleL_len] at hR
  refine wp_bnd (trim_places_wp hR (by rw [idleL_len]; omega) fun b2 H2 w hk2 _ hwl hws hN => wp_asSl ?_)
  rw [idleL_len] at hwl hws
  have hR2 := hR.keeps hk2
  have hl1 : ((numSl b p.length).len : Int) = p.length := rfl
  rw [hl1]
  have hs2 := hs.keeps (hk1.trans hk2)
  have hidl := idleL_len p
  refine wp_blk ?_
  refine wp_loop (fun k vs H' => ∃ (i : Nat) (t : Sl), k + i = p.length ∧ vs = [.sl t, I (i : Int)] ∧ Own H2 H' t 4 ((trimG (idleL p) p i).map Ins.cs)) p.length
    ⟨0, _, by omega, rfl, Own.nil (Keeps.refl _) 4⟩ ?_
  rintro k vs H3 ⟨i, t, hki, rfl, hown⟩
  refine wp_uL (wp_uI (wp_nl (wp_condD (fun hi => ?_) (fun hi => ?_))))
  · have hi' : i < p.length := by omega
    have hw : wr ((i : Int) + 1) = ((i + 1 : Nat) : Int) := by rw [wr_small (by omega) (by omega)]; rfl
    have hk3 := hown.keeps
    have hR3 := hR2.keeps hk3
    have hs3 := hs2.keeps hk3
    have hN3 := hN.keeps hk3
    have hiI : i < (idleL p).length := by omega
    refine wp_blk ?_
    refine wp_atB hR3 hiI fun _ _ => wp_asB ?_
    refine wp_cond (fun c => ?_) (fun c => ?_)
    · refine wp_ret ?_
      show wp _ _ _
      refine wp_uL (wp_nl (wp_ret ?_))
      rw [hw]
      refine ⟨k - 1, by omega, i + 1, t, by omega, rfl, ?_⟩
      rw [trimG_succ hi', getD_of hiI, c]
      simpa using hown
    · refine wp_at hs3 hi' fun _ _ => ?_
      show wp (uI .i64 [I (p[i]).op, I (p[i]).a, I (p[i]).b, I (p[i]).c] _) _ _
      refine wp_uI (wp_uI (wp_uI (wp_uI (wp_nl ?_))))
      refine wp_jnP ((p[i]).op = 3 ∨ (p[i]).op = 20) ?_ (fun hh => ?_) (fun hh => ?_)
      · refine wp_condE (fun c => wp_bB ?_) (fun c => wp_bB ?_)
        · simp [c]
        · simp [c]
      all_goals
        have hgl := trimG_len (bs := idleL p) (p := p) hidl (i := i) (by omega)
        have hkl := keptN_le (idleL p) i
        have fin : ∀ x : Ins, x = movedI (idleL p) p[i] → wp (apd t 4 32 1 x.cs fun x43 => ret (Leaf.norm [.sl x43])) (fun lf H' => ∃ t', lf = Leaf.norm [.sl t'] ∧ Own H2 H' t' 4 ((trimG (idleL p) p (i + 1)).map Ins.cs)) H3 := by
          rintro x rfl
          refine wp_apd hown (l := (movedI (idleL p) p[i]).cs) rfl (by omega) (by simp only [List.length_map, hgl, room]; omega) (by simp only [List.length_map, hgl, room]; omega) ?_
          intro s' H' ho _ _ _
          refine wp_ret ⟨s', rfl, ?_⟩
          rw [trimG_succ hi', getD_of hiI, c]
          simpa using ho
        have tail : ∀ x : Ins, x = movedI (idleL p) p[i] → wp (apd t 4 32 1 x.cs fun x43 => ret (Leaf.norm [.sl x43])) (PBlk 1 (PLoop (fun k vs H' => ∃ (i : Nat) (t : Sl), k + i = p.length ∧ vs = [.sl t, I (i : Int)] ∧ Own H2 H' t 4 ((trimG (idleL p) p i).map Ins.cs)) k
            (PBlk 0 (PFin Q) fun vs => uL vs fun x6_2 r_16 => nl r_16 (ret (.ret [.sl x6_2, I (wr ((p.length : Int) - (x6_2.len : Int)))])))) fun vs_2 => uL vs_2 fun x6_1 r_15 => nl r_15 (ret (.norm [.sl x6_1, I (wr ((i : Int) + 1))]))) H3 := by
          intro x hx
          refine (fin x hx).mono ?_
          rintro _ H4 ⟨t', rfl, ho⟩
          show wp _ _ _
          refine wp_uL (wp_nl (wp_ret ?_))
          rw [hw]
          exact ⟨k - 1, by omega, i + 1, t', by omega, rfl, ho⟩
      · obtain ⟨f1, f2⟩ := hc.fwd i hi' hh
        refine wp_uB (wp_nl (wp_jn (wp_condT ?_)))
        obtain ⟨q, hq⟩ : ∃ q, (p[i]).a.toNat = q := ⟨_, rfl⟩
        have ea : (p[i]).a = (q : Int) := by omega
        have hqw : q < w.length := by omega
        have hwa : w[q] = (keptN (idleL p) q : Int) := by
          have := hws q (by omega)
          rw [List.getElem?_eq_getElem hqw] at this
          exact Option.some.inj this
        rw [ea]
        refine wp_numgetN hN3 rfl (i := q) hqw fun _ _ => wp_asI (wp_ret ?_)
        show wp _ _ _
        rw [hwa]
        refine wp_uA (wp_uI (wp_uI (wp_uI (wp_uI (wp_nl (wp_nl ?_))))))
        exact tail ⟨(p[i]).op, (keptN (idleL p) q : Int), (p[i]).b, (p[i]).c⟩ (by unfold movedI; rw [if_pos hh, hq])
      · refine wp_uB (wp_nl (wp_jn (wp_condF (wp_ret ?_))))
        show wp _ _ _
        refine wp_uA (wp_uI (wp_uI (wp_uI (wp_uI (wp_nl (wp_nl ?_))))))
        exact tail p[i] (by unfold movedI; rw [if_neg hh])
  · have : i = p.length := by omega
    subst this
    refine wp_ret ?_
    show wp _ _ _
    refine wp_uL (wp_nl (wp_rF2 ?_))
    have hr : RProg H3 t (trim1 p) := hown.slR
    have hlt := hr.lenI
    have hgl := trimG_len (bs := idleL p) (p := p) hidl (i := p.length) (by omega)
    have hkl := keptN_le (idleL p) p.length
    have : (trim1 p).length ≤ p.length := by unfold trim1; omega
    rw [hlt, wr_small (by omega) (by omega)]
    exact h t H3 ((hk1.trans hk2).trans hown.keeps) hr
end Go.Proofs.Ytolchnaegifckaa.HR
namespace Go.Proofs.Ytolchnaegifckaa.HR
open Go

def markL (L : List Bool) : List Int → List Bool
  | [] => L
  | z :: l => markL (L.set z.toNat true) l
theorem markL_len : ∀ (l : List Int) (L : List Bool), (markL L l).length = L.length
  | [], L => rfl
  | z :: l, L => by simp only [markL]; rw [markL_len l]; simp
theorem markL_get : ∀ (l : List Int) (L : List Bool), (∀ z ∈ l, 0 ≤ z ∧ z < L.length) → ∀ j : Nat, (markL L l).getD j false = true ↔ L.getD j false = true ∨ (j : Int) ∈ l
  | [], L, _, j => by simp [markL]
  | z :: l, L, h, j => by
    obtain ⟨h1, h2⟩ := h z List.mem_cons_self
    simp only [markL]
    rw [markL_get l _ (fun y hy => by rw [List.length_set]; exact h y (List.mem_cons_of_mem _ hy)) j]
    by_cases e : j = z.toNat
    · subst e
      rw [getD_set_self (by omega)]
      have : ((z.toNat : Nat) : Int) = z := by omega
      simp [this]
    · rw [getD_set_ne e]
      have : (j : Int) ≠ z := by omega
      simp [this]
def passC (p : List Ins) : Nat → List Bool
  | 0 => (List.replicate (p.length + 1) false).set 0 true
  | i + 1 => match p[i]? with
    | some x => if (passC p i).getD i false then markL (passC p i) (nextL x i) else passC p i
    | none => passC p i
theorem passC_succ {p : List Ins} {i : Nat} (hi : i < p.length) : passC p (i + 1) = if (passC p i).getD i false then markL (passC p i) (nextL p[i] i) else passC p i := by
  simp only [passC, List.getElem?_eq_getElem hi]
theorem passC_ok {p : List Ins} (hc : CanB p) : ∀ i, i ≤ p.length → (passC p i).length = p.length + 1 ∧ ∀ j, (passC p i).getD j false = true ↔ RchB p 0 i j
  | 0, _ => by
    refine ⟨by simp [passC], fun j => ?_⟩
    simp only [passC]
    by_cases e : j = 0
    · subst e
      rw [getD_set_self (by simp)]
      exact ⟨fun _ => .inl rfl, fun _ => rfl⟩
    · rw [getD_set_ne e, List.getD_eq_getElem?_getD, List.getElem?_replicate]
      constructor
      · intro h; split at h <;> cases h
      · rintro (h | ⟨_, _, h, _⟩)
        · exact absurd h e
        · omega
  | i + 1, hi => by
    have hi' : i < p.length := hi
    obtain ⟨h1, h2⟩ := passC_ok hc i (by omega)
    rw [passC_succ hi']
    have hself := h2 i
    rw [rchB_self hc] at hself
    by_cases hr : (passC p i).getD i false = true
    · rw [if_pos hr]
      refine ⟨by rw [markL_len]; exact h1, fun j => ?_⟩
      rw [markL_get _ _ (fun z hz => by have := nextL_range hc hi' hz; omega), h2, rchB_succ hi']
      simp [hself.1 hr]
    · rw [if_neg hr]
      refine ⟨h1, fun j => ?_⟩
      rw [h2, rchB_succ hi']
      have : ¬ Rch p 0 i := fun hh => hr (hself.2 hh)
      simp [this]
def rchC (p : List Ins) (j : Nat) : Bool := (passC p p.length).getD j false
theorem rchC_iff {p : List Ins} (hc : CanB p) (j : Nat) : rchC p j = true ↔ Rch p 0 j := by
  unfold rchC
  rw [(passC_ok hc p.length (Nat.le_refl _)).2, rchB_all]
def idleC (p : List Ins) (i : Nat) : Bool := match p[i]? with
  | some x => if x.op = 5 then !rchC p (opn p i).toNat else (!rchC p i || decide (x.op = 3 ∧ x.a = (i : Int) + 1))
  | none => false
theorem idleL_eq {p : List Ins} (hc : CanB p) : idleL p = (List.range p.length).map (idleC p) := by
  refine List.ext_getElem (by simp [idleL]) fun i h1 h2 => ?_
  have hi : i < p.length := by rw [idleL_len] at h1; exact h1
  rw [Bool.eq_iff_iff, idleL_get h1, idleP_eq hi, List.getElem_map, List.getElem_range]
  unfold idleC
  rw [List.getElem?_eq_getElem hi]
  simp only
  split
  · rw [← rchC_iff hc]; simp
  · unfold base; rw [← rchC_iff hc]; simp
def trimC (p : List Ins) : List Ins := trimG ((List.range p.length).map (idleC p)) p p.length
theorem trim1_eq {p : List Ins} (hc : CanB p) : trim1 p = trimC p := by unfold trim1 trimC; rw [idleL_eq hc]

/-- a chain of programs: each is let, and the next one is it, trimmed once. -/
structure Chain (C : List Ins → Prop) : Prop where
  can : ∀ p, C p → CanB p
  fit : ∀ p, C p → ∀ x ∈ p, IFit x
  next : ∀ p, C p → C (trim1 p)
theorem trim1_le (p : List Ins) : (trim1 p).length ≤ p.length := by
  unfold trim1
  rw [trimG_len (idleL_len p) (Nat.le_refl _)]
  exact keptN_le _ _
/-- trimmed till nothing more goes. -/
inductive Trims : List Ins → List Ins → Prop
  | last {p : List Ins} : (trim1 p).length = p.length → Trims p (trim1 p)
  | more {p q : List Ins} : (trim1 p).length ≠ p.length → Trims (trim1 p) q → Trims p q

theorem trim_Trim_wp {C : List Ins → Prop} (hC : Chain C) {D : HV → List HV → M HV} {H : Heap} {Q : HV → Heap → Prop} {s : Sl} {p : List Ins} (hs : RProg H s p) (hp : C p)
    (h : ∀ s' q H', Trims p q → C q → Keeps H H' → RProg H' s' q → Q (.tup [.sl s', I 0]) H') : wp (f_trim_Trim D [.sl s]) Q H := by
  unfold f_trim_Trim
  have hc := hC.can p hp
  have hf := hC.fit p hp
  with_reducible repeat' (first | refine wp_finF ?_ | refine wp_uA ?_ | refine wp_uI ?_ | refine wp_uB ?_ | refine wp_uL ?_ | refine wp_uS ?_ | refine wp_uP ?_ | refine wp_uc ?_ | refine wp_nl ?_ | refine wp_asB ?_ | refine wp_asI ?_ | refine wp_asSl ?_ | refine wp_asT ?_ | refine wp_asA ?_ | refine wp_asS ?_ | refine wp_asP ?_ | refine wp_nN ?_ | refine wp_rN ?_ | refine wp_xN ?_ | refine wp_nB ?_ | refine wp_rB ?_ | refine wp_xB rfl ?_ | refine wp_xB' rfl ?_ | refine wp_bB ?_ | refine wp_rX ?_ | refine wp_xX ?_ | refine wp_rE ?_ | refine wp_xE ?_ | refine wp_rR ?_ | refine wp_xR ?_ | refine wp_r0 ?_ | refine wp_x0 ?_ | refine wp_rF ?_ | refine wp_rF0 ?_ | refine wp_rF2 ?_ | refine wp_rF3 ?_ | refine wp_rF4 ?_ | refine wp_condT ?_ | refine wp_condF ?_ | refine wp_condNT ?_ | refine wp_condNF ?_)
  refine wp_bnd (code_Check_wp hs hf (fun hn => absurd hc.len (by omega)) (fun _ H1 hk1 => ?_) (fun _ hn => absurd (canC_iff.2 hc) hn))
  refine wp_asT (wp_uI (wp_uI (wp_nl (wp_condNE (fun c => absurd rfl c) (fun _ => ?_)))))
  refine wp_bnd (trim_Once_wp (hs.keeps hk1) hf hc fun s1 H2 hk2 hr2 => wp_asT (wp_uL (wp_uI (wp_nl ?_))))
  refine wp_blk ?_
  refine wp_loop (fun k vs H' => ∃ (t : Sl) (o q : List Ins), k = q.length + (if q.length = o.length then 0 else 1) ∧ q = trim1 o ∧ C o ∧ vs = [.sl t, I ((o.length : Int) - q.length)] ∧ Keeps H H' ∧ RProg H' t q ∧ ∀ z, Trims o z → Trims p z) _
    ⟨s1, p, trim1 p, rfl, rfl, hp, rfl, hk1.trans hk2, hr2, fun _ hz => hz⟩ ?_
  rintro k vs H3 ⟨t, o, q, hk, rfl, hCo, rfl, hk3, hr3, htr⟩
  have hle := trim1_le o
  refine wp_uL (wp_uI (wp_nl (wp_condD (fun c => ?_) (fun c => ?_))))
  · have hne : (trim1 o).length ≠ o.length := by omega
    have hCq := hC.next o hCo
    have hle2 := trim1_le (trim1 o)
    refine wp_bnd (trim_Once_wp hr3 (hC.fit _ hCq) (hC.can _ hCq) fun s4 H4 hk4 hr4 => wp_asT (wp_uL (wp_uI (wp_nl (wp_ret ?_)))))
    refine ⟨_, ?_, s4, trim1 o, trim1 (trim1 o), rfl, rfl, hCq, rfl, hk3.trans hk4, hr4, fun z hz => htr z (.more hne hz)⟩
    rw [hk, if_neg hne]
    split <;> omega
  · have heq : (trim1 o).length = o.length := by omega
    refine wp_ret ?_
    show wp _ _ _
    refine wp_uL (wp_nl (wp_rF2 ?_))
    exact h t _ H3 (htr _ (.last heq)) (hC.next o hCo) hk3 hr3
end Go.Proofs.Ytolchnaegifckaa.HR
namespace Go.Proofs.Ytolchnaegifckaa.HR
open Go

def pA : List Ins := [⟨3, 2, 0, 2⟩, ⟨0, 0, 0, 0⟩, ⟨1, 1, 5, 0⟩]
def pB : List Ins := [⟨3, 1, 0, 2⟩, ⟨1, 1, 5, 0⟩]
def pC : List Ins := [⟨1, 1, 5, 0⟩]
theorem pA_fit : ∀ x ∈ pA, IFit x := by
  intro x hx; simp [pA] at hx
  rcases hx with rfl | rfl | rfl <;> exact ⟨by simp [loI, hiI], by simp [loI, hiI], by simp [loI, hiI], by simp [loI, hiI]⟩
theorem pB_fit : ∀ x ∈ pB, IFit x := by
  intro x hx; simp [pB] at hx
  rcases hx with rfl | rfl <;> exact ⟨by simp [loI, hiI], by simp [loI, hiI], by simp [loI, hiI], by simp [loI, hiI]⟩
theorem pC_fit : ∀ x ∈ pC, IFit x := by
  intro x hx; simp [pC] at hx
  subst hx; exact ⟨by simp [loI, hiI], by simp [loI, hiI], by simp [loI, hiI], by simp [loI, hiI]⟩
theorem pA_can : CanB pA := canB_of pA_fit (by decide)
theorem pB_can : CanB pB := canB_of pB_fit (by decide)
theorem pC_can : CanB pC := canB_of pC_fit (by decide)
theorem pA_1 : trim1 pA = pB := by rw [trim1_eq pA_can]; decide
theorem pB_1 : trim1 pB = pC := by rw [trim1_eq pB_can]; decide
theorem pC_1 : trim1 pC = pC := by rw [trim1_eq pC_can]; decide
theorem pA_chain : Chain (fun q => q = pA ∨ q = pB ∨ q = pC) := by
  refine ⟨?_, ?_, ?_⟩
  · rintro p (rfl | rfl | rfl)
    · exact pA_can
    · exact pB_can
    · exact pC_can
  · rintro p (rfl | rfl | rfl)
    · exact pA_fit
    · exact pB_fit
    · exact pC_fit
  · rintro p (rfl | rfl | rfl)
    · exact .inr (.inl pA_1)
    · exact .inr (.inr pB_1)
    · exact .inr (.inr pC_1)
theorem pA_trims {q : List Ins} (h : Trims pA q) : q = pC := by
  have hC : ∀ {q}, Trims pC q → q = pC := by
    intro q h
    cases h with
    | last _ => exact pC_1
    | more hn _ => rw [pC_1] at hn; exact absurd rfl hn
  have hB : ∀ {q}, Trims pB q → q = pC := by
    intro q h
    cases h with
    | last _ => exact pB_1
    | more _ h => rw [pB_1] at h; exact hC h
  cases h with
  | last e => rw [pA_1] at e; simp [pA, pB] at e
  | more _ h => rw [pA_1] at h; exact hB h
theorem pA_kept : keptN (idleL pA) 2 = 1 := by rw [idleL_eq pA_can]; decide

theorem law29_alive_wp {D : HV → List HV → M HV} {H : Heap} {Q : HV → Heap → Prop} (h : ∀ H', Keeps H H' → Q (.bool true) H') : wp (f_law29_alive D []) Q H := by
  unfold f_law29_alive
  with_reducible repeat' (first | refine wp_finF ?_ | refine wp_uA ?_ | refine wp_uI ?_ | refine wp_uB ?_ | refine wp_uL ?_ | refine wp_uS ?_ | refine wp_uP ?_ | refine wp_uc ?_ | refine wp_nl ?_ | refine wp_asB ?_ | refine wp_asI ?_ | refine wp_asSl ?_ | refine wp_asT ?_ | refine wp_asA ?_ | refine wp_asS ?_ | refine wp_asP ?_ | refine wp_nN ?_ | refine wp_rN ?_ | refine wp_xN ?_ | refine wp_nB ?_ | refine wp_rB ?_ | refine wp_xB rfl ?_ | refine wp_xB' rfl ?_ | refine wp_bB ?_ | refine wp_rX ?_ | refine wp_xX ?_ | refine wp_rE ?_ | refine wp_xE ?_ | refine wp_rR ?_ | refine wp_xR ?_ | refine wp_r0 ?_ | refine wp_x0 ?_ | refine wp_rF ?_ | refine wp_rF0 ?_ | refine wp_rF2 ?_ | refine wp_rF3 ?_ | refine wp_rF4 ?_ | refine wp_condT ?_ | refine wp_condF ?_ | refine wp_condNT ?_ | refine wp_condNF ?_)
  refine wp_nw ?_
  have hs : RProg (H.push (.cells [I 3, I 2, I 0, I 2, I 0, I 0, I 0, I 0, I 1, I 1, I 5, I 0] false)) ⟨some (H.n, 0), 3, 3, none⟩ pA := slr_push _ rfl rfl (by simp [pA]) (by simp [pA])
  have hk0 := Keeps.push H (.cells [I 3, I 2, I 0, I 2, I 0, I 0, I 0, I 0, I 1, I 1, I 5, I 0] false)
  generalize H.push (.cells [I 3, I 2, I 0, I 2, I 0, I 0, I 0, I 0, I 1, I 1, I 5, I 0] false) = H0 at hs hk0
  refine wp_bnd (trim_Once_wp hs pA_fit pA_can fun s1 H1 hk1 hr1 => wp_asT (wp_uL (wp_uI (wp_nl ?_))))
  rw [pA_1] at hr1 ⊢
  refine wp_bnd (trim_Trim_wp pA_chain (hs.keeps hk1) (.inl rfl) fun s2 q H2 hq _ hk2 hr2 => wp_asT (wp_uL (wp_uI (wp_nl ?_))))
  have := pA_trims hq
  subst this
  have hr1' := hr1.keeps hk2
  have hs2 := (hs.keeps hk1).keeps hk2
  have l1 : (s1.len : Int) = 2 := hr1.lenI
  have l2 : (s2.len : Int) = 1 := hr2.lenI
  rw [l1, l2]
  have hk := (hk0.trans hk1).trans hk2
  refine wp_jn (wp.mono (Q := fun lf H' => Keeps H H' ∧ lf = Leaf.norm [.bool true]) ?_ ?_)
  · refine wp_condE (fun _ => ?_) (fun c => absurd (by decide) c)
    refine wp_condE (fun _ => ?_) (fun c => absurd rfl c)
    refine wp_atF hr1' (i := 0) (k := 1) (v := I 1) (by decide) rfl fun _ _ => wp_asI ?_
    refine wp_condE (fun _ => ?_) (fun c => absurd rfl c)
    refine wp_condE (fun _ => ?_) (fun c => absurd rfl c)
    refine wp_condE (fun _ => ?_) (fun c => absurd rfl c)
    refine wp_at hr2 (i := 0) (by decide) fun _ _ => ?_
    show wp (uI .i64 [I 1, I 1, I 5, I 0] _) _ _
    refine wp_uI (wp_uI (wp_uI (wp_uI (wp_nl ?_))))
    refine wp_at hs2 (i := 2) (by decide) fun _ _ => ?_
    show wp (uI .i64 [I 1, I 1, I 5, I 0] _) _ _
    refine wp_uI (wp_uI (wp_uI (wp_uI (wp_nl ?_))))
    refine wp_cond (fun _ => ?_) (fun c => absurd c (by decide))
    refine wp_bnd (trim_Moved_wp hs2 pA_fit (a := 2) (fun _ k hk' _ H3 hk3 => ?_) (fun hn => absurd ⟨pA_can, by omega, by decide⟩ hn))
    have : k = 2 := by omega
    subst this
    rw [pA_kept]
    exact wp_asI (wp_ret ⟨hk.trans hk3, rfl⟩)
  · rintro _ H3 ⟨hk3, rfl⟩
    show wp _ _ _
    exact wp_uB (wp_nl (wp_rF (h _ hk3)))
end Go.Proofs.Ytolchnaegifckaa.HR
namespace Go.Proofs.Ytolchnaegifckaa.HR
open Go

/-- a cell of a function's own. -/
structure Cel (H : Heap) (b : Nat) (v : HV) : Prop where
  lt : b < H.n
  get : H.get b = .cells [v] false
theorem Cel.but {M : Nat → Prop} {H H' : Heap} {b : Nat} {v : HV} (h : Cel H b v) (k : But M H H') (hm : ¬ M b) : Cel H' b v := ⟨Nat.lt_of_lt_of_le h.lt k.n, by rw [k.get b h.lt hm]; exact h.get⟩
theorem Cel.keeps {H H' : Heap} {b : Nat} {v : HV} (h : Cel H b v) (k : Keeps H H') : Cel H' b v := ⟨Nat.lt_of_lt_of_le h.lt k.n, by rw [k.get b h.lt]; exact h.get⟩
theorem Cel.ne {H : Heap} {b b' : Nat} {v : HV} {o : HObj} (h : Cel H b v) (hb : b ≠ b') : Cel (H.set b' o) b v := ⟨h.lt, by simp only [Heap.set]; rw [if_neg hb]; exact h.get⟩
theorem Cel.new {H : Heap} {v : HV} : Cel (H.push (.cells [v] false)) H.n v := ⟨by simp [Heap.push], by simp [Heap.push]⟩
/-- a loop's record. -/
structure Lop (H : Heap) (l k : Nat) (vs : List (Nat × HV)) (st : LoopState) (pd : Option Code) : Prop where
  lt : l < H.n
  get : H.get l = .loop k vs st pd
section
variable {H : Heap} {l k : Nat} {vs : List (Nat × HV)} {st : LoopState} {pd : Option Code}
theorem Lop.but {M : Nat → Prop} {H' : Heap} (h : Lop H l k vs st pd) (hk : But M H H') (hm : ¬ M l) : Lop H' l k vs st pd := ⟨Nat.lt_of_lt_of_le h.lt hk.n, by rw [hk.get l h.lt hm]; exact h.get⟩
theorem Lop.keeps {H' : Heap} (h : Lop H l k vs st pd) (hk : Keeps H H') : Lop H' l k vs st pd := ⟨Nat.lt_of_lt_of_le h.lt hk.n, by rw [hk.get l h.lt]; exact h.get⟩
theorem Lop.ne {b' : Nat} {o : HObj} (h : Lop H l k vs st pd) (hb : l ≠ b') : Lop (H.set b' o) l k vs st pd := ⟨h.lt, by simp only [Heap.set]; rw [if_neg hb]; exact h.get⟩
theorem Lop.new : Lop (H.push (.loop k vs st pd)) H.n k vs st pd := ⟨by simp [Heap.push], by simp [Heap.push]⟩
end
section
variable {α : Type} {Q : α → Heap → Prop} {H : Heap}
end

/-- what a round of TrimIdle finds: the program, how many are wanted, is all well, how many there were, the last one. -/
structure TI (H : Heap) (b3 b5 b6 b7 b8 : Nat) (s : Sl) (k : Int) (z : Bool) (c last : Int) : Prop where
  c3 : Cel H b3 (.sl s)
  c5 : Cel H b5 (I k)
  c6 : Cel H b6 (.bool z)
  c7 : Cel H b7 (I c)
  c8 : Cel H b8 (I last)
theorem TI.keeps {H H' : Heap} {b3 b5 b6 b7 b8 : Nat} {s : Sl} {k : Int} {z : Bool} {c last : Int} (h : TI H b3 b5 b6 b7 b8 s k z c last) (hk : Keeps H H') : TI H' b3 b5 b6 b7 b8 s k z c last :=
  ⟨h.c3.keeps hk, h.c5.keeps hk, h.c6.keeps hk, h.c7.keeps hk, h.c8.keeps hk⟩
theorem TI.set {H : Heap} {b3 b5 b6 b7 b8 : Nat} {s : Sl} {k : Int} {z : Bool} {c last : Int} (h : TI H b3 b5 b6 b7 b8 s k z c last) {l : Nat} (hl : b3 < l ∧ b5 < l ∧ b6 < l ∧ b7 < l ∧ b8 < l) (o : HObj) : TI (H.set l o) b3 b5 b6 b7 b8 s k z c last :=
  ⟨h.c3.ne (by omega), h.c5.ne (by omega), h.c6.ne (by omega), h.c7.ne (by omega), h.c8.ne (by omega)⟩

end Go.Proofs.Ytolchnaegifckaa.HR
