/- Trimming: bounds are no greater, scopes are the same. Conditions: the program can be (plain lemmas). -/
import Derived.Test.YtijppadieomnjaaHTPf
import Derived.Test.YtijppadieomnjaaHTEl
import Derived.Test.YtijppadieomnjaaHTEj
import Derived.Test.YtijppadieomnjaaHTDf
namespace Go.Proofs.Ytijppadieomnjaa.HT
open Go

/-- an idle place to which a way leads is a jump to the next one. -/
theorem idle_jump {p : List Ins} (hc : CanB p) {i : Nat} (hi : i < p.length) (h : idleP p i) (hr : Rch p 0 i) : (p[i]).op = 3 ∧ (p[i]).a = (i : Int) + 1 := by
  rw [idleP_eq hi] at h
  by_cases h5 : (p[i]).op = 5
  · rw [if_pos h5] at h
    exact absurd (rch_begin hc hr (by omega) (hc.end_in hi h5)) h
  · rw [if_neg h5] at h
    rcases h with h | h
    · exact absurd hr h
    · exact h
theorem nextL_iff {x : Ins} {i : Nat} {z : Int} (ha : x.op = 3 ∨ x.op = 20 → (i : Int) < x.a) : z ∈ nextL x i ↔ (x.op ≠ 0 ∧ x.op ≠ 19 ∧ ¬ (x.op = 3 ∧ x.c = 2) ∧ z = (i : Int) + 1) ∨ ((x.op = 3 ∨ x.op = 20) ∧ z = x.a) := by
  unfold nextL
  by_cases h0 : x.op = 0 ∨ x.op = 19
  · rw [if_pos h0]
    simp only [List.not_mem_nil, false_iff]
    rintro (⟨h1, h2, _⟩ | ⟨h1, _⟩) <;> omega
  rw [if_neg h0]
  by_cases h1 : x.op = 3 ∧ x.c = 2
  · rw [if_pos h1]
    simp only [List.mem_singleton]
    constructor
    · intro h; exact .inr ⟨.inl h1.1, h⟩
    · rintro (⟨_, _, h, _⟩ | ⟨_, h⟩)
      · exact absurd h1 h
      · exact h
  rw [if_neg h1]
  by_cases h2 : (x.op = 3 ∨ x.op = 20) ∧ x.a > (i : Int) + 1
  · rw [if_pos h2]
    simp only [List.mem_cons, List.not_mem_nil, or_false]
    constructor
    · rintro (h | h)
      · exact .inl ⟨by omega, by omega, h1, h⟩
      · exact .inr ⟨h2.1, h⟩
    · rintro (⟨_, _, _, h⟩ | ⟨_, h⟩)
      · exact .inl h
      · exact .inr h
  rw [if_neg h2]
  simp only [List.mem_singleton]
  constructor
  · intro h; exact .inl ⟨by omega, by omega, h1, h⟩
  · rintro (⟨_, _, _, h⟩ | ⟨h, h'⟩)
    · exact h
    · have := ha h
      have : ¬ x.a > (i : Int) + 1 := fun hh => h2 ⟨h, hh⟩
      omega
theorem movedI_a {bs : List Bool} {x : Ins} (h : x.op = 3 ∨ x.op = 20) : (movedI bs x).a = (keptN bs x.a.toNat : Int) := by unfold movedI; rw [if_pos h]
theorem movedI_self {bs : List Bool} {x : Ins} (h : ¬ (x.op = 3 ∨ x.op = 20)) : movedI bs x = x := by unfold movedI; rw [if_neg h]
theorem trim1_getE {p : List Ins} {i : Nat} (hi : i < p.length) (h : ¬ idleP p i) : ∃ hk : kp p i < (trim1 p).length, (trim1 p)[kp p i] = movedI (idleL p) p[i] := by
  obtain ⟨h1, h2⟩ := List.getElem?_eq_some_iff.1 (trim1_at hi h)
  exact ⟨h1, h2⟩
theorem Fwd.at_ {p : List Ins} (h : Fwd p) {i : Nat} (hi : i < p.length) : (p[i]).op = 3 ∨ (p[i]).op = 20 → (i : Int) < (p[i]).a := fun ho => (h i hi ho).1
/-- the steps of a kept place. -/
theorem next_trim {p : List Ins} (hc : CanB p) {i : Nat} (hi : i < p.length) (h : ¬ idleP p i) {j : Nat} (hj : (j : Int) ∈ nextL p[i] i) : (kp p j : Int) ∈ nextL (movedI (idleL p) p[i]) (kp p i) := by
  have hf := hc.fwd
  obtain ⟨m1, m2, m3⟩ := movedI_op (idleL p) p[i]
  rw [nextL_iff (hf.at_ hi)] at hj
  have hgo : (p[i]).op = 3 ∨ (p[i]).op = 20 → (kp p i : Int) < (keptN (idleL p) (p[i]).a.toNat : Int) := fun ho => by
    obtain ⟨f1, f2⟩ := hf i hi ho
    have := kp_lt (p := p) (i := i) (j := (p[i]).a.toNat) (by omega) (by omega) h
    have e : kp p (p[i]).a.toNat = keptN (idleL p) (p[i]).a.toNat := rfl
    omega
  rw [nextL_iff (by rw [m1]; intro ho; rw [movedI_a ho]; exact hgo ho), m1, m3]
  rcases hj with ⟨h1, h2, h3, h4⟩ | ⟨h1, h2⟩
  · refine .inl ⟨h1, h2, h3, ?_⟩
    have : j = i + 1 := by omega
    subst this
    have := kp_kept hi h
    omega
  · refine .inr ⟨h1, ?_⟩
    rw [movedI_a h1]
    have : j = (p[i]).a.toNat := by omega
    subst this; rfl
theorem rch_trim {p : List Ins} (hc : CanB p) {a : Nat} (ha : Rch p 0 a) {j : Nat} (h : Rch p a j) : Rch p 0 j ∧ Rch (trim1 p) (kp p a) (kp p j) := by
  induction h with
  | refl => exact ⟨ha, .refl⟩
  | @step i j hi hr hm ih =>
    obtain ⟨i0, i1⟩ := ih
    refine ⟨.step hi i0 hm, ?_⟩
    by_cases hid : idleP p i
    · obtain ⟨e1, e2⟩ := idle_jump hc hi hid i0
      have hk := kp_idle hi hid
      rw [nextL_iff (hc.fwd.at_ hi)] at hm
      have : j = i + 1 := by rcases hm with ⟨_, _, _, h⟩ | ⟨_, h⟩ <;> omega
      subst this
      rw [hk]; exact i1
    · obtain ⟨hkl, he⟩ := trim1_getE hi hid
      exact .step hkl i1 (by rw [he]; exact next_trim hc hi hid hm)
/-- on through what is idle. -/
theorem adv {p : List Ins} (hc : CanB p) {a : Nat} (ha : Rch p 0 a) : ∀ (m n : Nat), p.length - n = m → n ≤ p.length → Rch p a n → ∃ n', n ≤ n' ∧ n' ≤ p.length ∧ kp p n' = kp p n ∧ Rch p a n' ∧ (n' < p.length → ¬ idleP p n')
  | 0, n, hm, hn, hr => ⟨n, Nat.le_refl _, hn, rfl, hr, fun h => by omega⟩
  | m + 1, n, hm, hn, hr => by
    have hn' : n < p.length := by omega
    by_cases hid : idleP p n
    · obtain ⟨e1, e2⟩ := idle_jump hc hn' hid (rch_trim hc ha hr).1
      have h1 : Rch p a (n + 1) := .step hn' hr (by rw [nextL_iff (hc.fwd.at_ hn')]; exact .inr ⟨.inl e1, by rw [e2]; rfl⟩)
      obtain ⟨n', q1, q2, q3, q4, q5⟩ := adv hc ha m (n + 1) (by omega) (by omega) h1
      exact ⟨n', by omega, q2, by rw [q3, kp_idle hn' hid], q4, q5⟩
    · exact ⟨n, Nat.le_refl _, hn, rfl, hr, fun _ => hid⟩
theorem rch_back {p : List Ins} (hc : CanB p) {a : Nat} (ha : Rch p 0 a) (hal : a < p.length) (hak : ¬ idleP p a) {m : Nat} (h : Rch (trim1 p) (kp p a) m) :
    ∃ n, n ≤ p.length ∧ kp p n = m ∧ Rch p a n ∧ (n < p.length → ¬ idleP p n) := by
  have hct := can_trim hc
  induction h with
  | refl => exact ⟨a, by omega, rfl, .refl, fun _ => hak⟩
  | @step m' m hm' hr hmem ih =>
    obtain ⟨n, n1, n2, n3, n4⟩ := ih
    have hn : n < p.length := by
      apply Classical.byContradiction
      intro hh
      have : n = p.length := by omega
      subst this
      rw [trim1_len] at hm'
      omega
    have hid := n4 hn
    obtain ⟨hkl, he⟩ := trim1_getE hn hid
    subst n2
    rw [he] at hmem
    obtain ⟨m1, m2, m3⟩ := movedI_op (idleL p) p[n]
    have hf := hc.fwd
    have hgo : (p[n]).op = 3 ∨ (p[n]).op = 20 → (kp p n : Int) < (keptN (idleL p) (p[n]).a.toNat : Int) := fun ho => by
      obtain ⟨f1, f2⟩ := hf n hn ho
      have := kp_lt (p := p) (i := n) (j := (p[n]).a.toNat) (by omega) (by omega) hid
      have e : kp p (p[n]).a.toNat = keptN (idleL p) (p[n]).a.toNat := rfl
      omega
    rw [nextL_iff (by rw [m1]; intro ho; rw [movedI_a ho]; exact hgo ho), m1, m3] at hmem
    have key : ∃ n1, n1 ≤ p.length ∧ kp p n1 = m ∧ Rch p a n1 := by
      rcases hmem with ⟨h1, h2, h3, h4⟩ | ⟨h1, h2⟩
      · refine ⟨n + 1, by omega, ?_, .step hn n3 ?_⟩
        · have := kp_kept hn hid; omega
        · rw [nextL_iff (hf.at_ hn)]; exact .inl ⟨h1, h2, h3, rfl⟩
      · obtain ⟨f1, f2⟩ := hf n hn h1
        rw [movedI_a h1] at h2
        refine ⟨(p[n]).a.toNat, by omega, ?_, .step hn n3 ?_⟩
        · have e : kp p (p[n]).a.toNat = keptN (idleL p) (p[n]).a.toNat := rfl
          omega
        · rw [nextL_iff (hf.at_ hn)]; exact .inr ⟨h1, by omega⟩
    obtain ⟨n1', q1, q2, q3⟩ := key
    obtain ⟨n', r1, r2, r3, r4, r5⟩ := adv hc ha _ n1' rfl q1 q3
    exact ⟨n', r2, by rw [r3, q2], r4, r5⟩

/-! bounds -/
theorem Bd_trim {p : List Ins} (hc : CanB p) : ∀ (m i : Nat), p.length - i = m → i ≤ p.length → Rch p 0 i → Bd (trim1 p) (kp p i) ≤ Bd p i
  | 0, i, hm, hi, _ => by
    have : i = p.length := by omega
    subst this
    rw [Bd_end (p := p) (Nat.le_refl _), Bd_end (by rw [trim1_len]; exact Nat.le_refl _)]
    exact Int.le_refl _
  | m + 1, i, hm, hi, hr => by
    have hi' : i < p.length := by omega
    have hf := hc.fwd
    have ih : ∀ j : Nat, (j : Int) ∈ nextL p[i] i → Bd (trim1 p) (kp p j) ≤ Bd p j := fun j hj => by
      have := nextL_range hc hi' hj
      have hm' : p.length - j ≤ m := by omega
      have : ∀ (m' : Nat), m' ≤ m → p.length - j = m' → Bd (trim1 p) (kp p j) ≤ Bd p j := fun m' hle e => by
        rcases Nat.lt_or_ge m' m with hlt | hge
        · exact Bd_trim hc m' j e (by omega) (.step hi' hr hj)
        · have : m' = m := by omega
          subst this
          exact Bd_trim hc m' j e (by omega) (.step hi' hr hj)
      exact this _ hm' rfl
    by_cases hid : idleP p i
    · obtain ⟨e1, e2⟩ := idle_jump hc hi' hid hr
      have h1 := ih (i + 1) (by rw [nextL_iff (hf.at_ hi')]; exact .inr ⟨.inl e1, by rw [e2]; rfl⟩)
      rw [kp_idle hi' hid] at h1
      have h2 := Bd_next hc hi' (by omega) (k := ((i + 1 : Nat) : Int)) (by rw [nextL_iff (hf.at_ hi')]; exact .inr ⟨.inl e1, by rw [e2]; rfl⟩)
      rw [Int.toNat_natCast] at h2
      omega
    · obtain ⟨hkl, he⟩ := trim1_getE hi' hid
      have hct := can_trim hc
      rw [Bd_eq hf hi', Bd_eq hct.fwd hkl, he]
      obtain ⟨m1, m2, m3⟩ := movedI_op (idleL p) p[i]
      have hk1 := kp_kept hi' hid
      unfold oneB
      rw [m1, m3]
      have fall : (p[i]).op ≠ 0 → (p[i]).op ≠ 19 → ¬ ((p[i]).op = 3 ∧ (p[i]).c = 2) → Bd (trim1 p) (kp p i + 1) ≤ Bd p (i + 1) := fun h1 h2 h3 => by
        rw [← hk1]; exact ih (i + 1) (by rw [nextL_iff (hf.at_ hi')]; exact .inl ⟨h1, h2, h3, rfl⟩)
      have jump : (p[i]).op = 3 ∨ (p[i]).op = 20 → Bd (trim1 p) (movedI (idleL p) p[i]).a.toNat ≤ Bd p (p[i]).a.toNat := fun ho => by
        obtain ⟨f1, f2⟩ := hf i hi' ho
        rw [movedI_a ho, Int.toNat_natCast]
        exact ih (p[i]).a.toNat (by rw [nextL_iff (hf.at_ hi')]; exact .inr ⟨ho, by omega⟩)
      by_cases h0 : (p[i]).op = 0 ∨ (p[i]).op = 5 ∨ (p[i]).op = 19
      · rw [if_pos h0, if_pos h0]; exact Int.le_refl _
      rw [if_neg h0, if_neg h0]
      by_cases h20 : (p[i]).op = 20
      · rw [if_pos h20, if_pos h20]
        have a1 := fall (by omega) (by omega) (by omega)
        have a2 := jump (.inr h20)
        omega
      rw [if_neg h20, if_neg h20]
      by_cases h3 : (p[i]).op = 3
      · rw [if_pos h3, if_pos h3]
        have a2 := jump (.inl h3)
        by_cases hc2 : (p[i]).c = 2
        · simp only [hc2, if_true]; omega
        · simp only [hc2, if_false]
          have a1 := fall (by omega) (by omega) (fun h => hc2 h.2)
          unfold imax
          split <;> split <;> omega
      · rw [if_neg h3, if_neg h3]
        have a1 := fall (by omega) (by omega) (by omega)
        omega
theorem blk_trim {p : List Ins} (hc : CanB p) {i : Nat} (hi : i < p.length) (hid : ¬ idleP p i) (hkl : kp p i < (trim1 p).length) (h : Blk (trim1 p) (kp p i) < 0) : Blk p i < 0 := by
  apply Classical.byContradiction
  intro hn
  obtain ⟨_, he⟩ := trim1_getE hi hid
  obtain ⟨m1, _, _⟩ := movedI_op (idleL p) p[i]
  rw [Blk_eq hi] at hn
  by_cases h4 : (p[i]).op = 4
  · rw [if_pos h4] at hn; omega
  · rw [if_neg h4] at hn
    have ho : 0 ≤ opn p i := by omega
    have hr : Rch p 0 (opn p i).toNat := by
      by_cases h5 : (p[i]).op = 5
      · exact Classical.byContradiction fun hh => hid ((idle_end hi h5).2 hh)
      · exact rch_begin hc (kept_rch hi h5 hid) (by omega) ho
    rw [Blk_eq hkl, he, m1, if_neg h4, (opn_trim hc i (by omega)).1 ho hr] at h
    omega
theorem totB_trim {p : List Ins} (hc : CanB p) : ∀ i, i ≤ p.length → totB (trim1 p) (kp p i) ≤ totB p i
  | 0, _ => by rw [kp_zero]; exact Int.le_refl _
  | i + 1, hi => by
    have hi' : i < p.length := hi
    have ih := totB_trim hc i (by omega)
    have hb := Bd_nonneg hc i
    rw [totB_succ hi']
    by_cases hid : idleP p i
    · rw [kp_idle hi' hid]
      split
      · omega
      · split <;> omega
    · obtain ⟨hkl, he⟩ := trim1_getE hi' hid
      obtain ⟨m1, _, _⟩ := movedI_op (idleL p) p[i]
      rw [kp_kept hi' hid, totB_succ hkl, he, m1]
      by_cases h4 : (p[i]).op = 4
      · rw [if_pos h4, if_pos h4]
        have := Bd_trim hc _ i rfl (by omega) (kept_rch hi' (by omega) hid)
        omega
      · rw [if_neg h4, if_neg h4]
        by_cases hb' : Blk (trim1 p) (kp p i) < 0
        · rw [if_pos hb', if_pos (blk_trim hc hi' hid hkl hb')]; omega
        · rw [if_neg hb']; split <;> omega

/-! scopes -/
/-- the cells of the scope of a block. -/
def IsSc (p : List Ins) (k : Nat) (c : List HV) : Prop := ∃ e S, EndAt p k e ∧ ScoI p k e S ∧ c = S.cells
theorem endAt_only {p : List Ins} {k e e' : Nat} (h : EndAt p k e) (h' : EndAt p k e') : e = e' := by
  rcases Nat.lt_trichotomy e e' with hlt | rfl | hlt
  · exact absurd (h.fin h.le) (h'.no e h.le h.lt hlt)
  · rfl
  · exact absurd (h'.fin h'.le) (h.no e' h'.le h'.lt hlt)
theorem cells_only {p : List Ins} {k e : Nat} {S S' : Sco} (h : ScoI p k e S) (h' : ScoI p k e S') : S.cells = S'.cells := by
  have bits : ∀ {b v : BitVec 8}, (∀ i, i < 8 → (b.getLsbD i = true ↔ v.getLsbD i = true)) → b = v := fun {b v} hb =>
    BitVec.eq_of_getLsbD_eq fun i hi => by rw [Bool.eq_iff_iff]; exact hb i hi
  have r : ∀ k, k < 3 → S.r k = S'.r k := fun k hk => bits fun i hi => by rw [h.r k hk i hi, h'.r k hk i hi]
  have w : ∀ k, k < 3 → S.w k = S'.w k := fun k hk => bits fun i hi => by rw [h.w k hk i hi, h'.w k hk i hi]
  have s : ∀ i, i < 3 → S.s i = S'.s i := fun i hi => by rw [Bool.eq_iff_iff, h.s i hi, h'.s i hi]
  have t : ∀ i, i < 4 → S.t i = S'.t i := fun i hi => by rw [Bool.eq_iff_iff, h.t i hi, h'.t i hi]
  have su : S.su = S'.su := by rw [Bool.eq_iff_iff, h.su, h'.su]
  have wa : S.wa = S'.wa := by rw [Bool.eq_iff_iff, h.wa, h'.wa]
  unfold Sco.cells
  rw [r 0 (by omega), r 1 (by omega), r 2 (by omega), w 0 (by omega), w 1 (by omega), w 2 (by omega), s 0 (by omega), s 1 (by omega), s 2 (by omega), t 0 (by omega), t 1 (by omega), t 2 (by omega), t 3 (by omega), su, wa]
theorem IsSc.only {p : List Ins} {k : Nat} {c c' : List HV} (h : IsSc p k c) (h' : IsSc p k c') : c = c' := by
  obtain ⟨e, S, h1, h2, rfl⟩ := h
  obtain ⟨e', S', h1', h2', rfl⟩ := h'
  have := endAt_only h1 h1'
  subst this
  exact cells_only h2 h2'
theorem endAt_trim {p : List Ins} (hc : CanB p) {k e : Nat} (h : EndAt p k e) (hr : Rch p 0 k) : EndAt (trim1 p) (kp p k) (kp p e) := by
  have hk : k < p.length := Nat.lt_trans h.lt h.le
  have h4 := h.b hk
  have h5 := h.fin h.le
  have hkk : ¬ idleP p k := fun hh => (idle_begin hk h4).1 hh hr
  have ho : opn p e = k := opn_in hc.shaped h.b h.le h.no e h.lt (Nat.le_refl _)
  have hek : ¬ idleP p e := kept_end h.le h5 (by rw [ho]; simpa using hr)
  obtain ⟨k1, k2⟩ := trim1_getE hk hkk
  obtain ⟨e1, e2⟩ := trim1_getE h.le hek
  refine ⟨kp_lt h.lt (Nat.le_of_lt h.le) hkk, e1, fun _ => by rw [k2, (movedI_op _ _).1]; exact h4, fun _ => by rw [e2, (movedI_op _ _).1]; exact h5, fun m hm h1 h2 => ?_⟩
  obtain ⟨n, hn, hid, rfl, he⟩ := trim1_inv hm
  rw [he, (movedI_op _ _).1]
  refine h.no n hn ?_ ?_
  · apply Classical.byContradiction
    intro hh
    have := kp_mono (p := p) (i := n) (j := k) (by omega) (by omega)
    omega
  · apply Classical.byContradiction
    intro hh
    have := kp_mono (p := p) (i := e) (j := n) (by omega) (by omega)
    omega
theorem ex_trim {p : List Ins} (hc : CanB p) {k e : Nat} (h : EndAt p k e) (hr : Rch p 0 k) {P : Ins → Prop} (hP : ∀ c, P c → c.op ≠ 3 ∧ c.op ≠ 20) : Ex p k e P ↔ Ex (trim1 p) (kp p k) (kp p e) P := by
  have hk : k < p.length := Nat.lt_trans h.lt h.le
  have hkk : ¬ idleP p k := fun hh => (idle_begin hk (h.b hk)).1 hh hr
  constructor
  · rintro ⟨n, hn, q1, q2, q3⟩
    obtain ⟨r1, r2⟩ := rch_trim hc hr q2
    have hid : ¬ idleP p n := fun hh => (hP _ q3).1 (idle_jump hc hn hh r1).1
    obtain ⟨e1, e2⟩ := trim1_getE hn hid
    refine ⟨kp p n, e1, kp_lt q1 (Nat.le_of_lt h.le) hid, r2, ?_⟩
    rw [e2, movedI_self (by have := hP _ q3; omega)]; exact q3
  · rintro ⟨m, hm, q1, q2, q3⟩
    obtain ⟨n, n1, n2, n3, n4⟩ := rch_back hc hr hk hkk q2
    have hn : n < p.length := by
      apply Classical.byContradiction
      intro hh
      have : n = p.length := by omega
      subst this
      rw [trim1_len] at hm
      omega
    subst n2
    obtain ⟨e1, e2⟩ := trim1_getE hn (n4 hn)
    rw [e2] at q3
    have hop := hP _ q3
    rw [(movedI_op _ _).1] at hop
    rw [movedI_self (by omega)] at q3
    refine ⟨n, hn, ?_, n3, q3⟩
    apply Classical.byContradiction
    intro hh
    have := kp_mono (p := p) (i := e) (j := n) (by omega) (by omega)
    omega
theorem isSc_trim {p : List Ins} (hc : CanB p) {k : Nat} (hr : Rch p 0 k) {c : List HV} (h : IsSc p k c) : IsSc (trim1 p) (kp p k) c := by
  obtain ⟨e, S, he, hS, rfl⟩ := h
  refine ⟨kp p e, S, endAt_trim hc he hr, ⟨fun k' hk i hi => ?_, fun k' hk i hi => ?_, fun i hi => ?_, fun i hi => ?_, ?_, ?_⟩, rfl⟩
  · rw [hS.r k' hk i hi]; exact ex_trim hc he hr fun c h => by unfold rdP at h; omega
  · rw [hS.w k' hk i hi]
    refine ex_trim hc he hr fun c h => ?_
    rcases h with h | ⟨_, _, h⟩
    · omega
    · unfold rdP at h; omega
  · rw [hS.s i hi]; exact ex_trim hc he hr fun c h => by unfold seP at h; omega
  · rw [hS.t i hi]; exact ex_trim hc he hr fun c h => by unfold taP at h; omega
  · rw [hS.su]; exact ex_trim hc he hr fun c h => by omega
  · rw [hS.wa]; exact ex_trim hc he hr fun c h => by omega
/-- the scopes of all blocks below a place to which ways lead, in order. -/
inductive ScL (p : List Ins) : Nat → List (List HV) → Prop
  | zero : ScL p 0 []
  | skip {j : Nat} {L : List (List HV)} : ¬ (Beg p (j : Int) ∧ Rch p 0 j) → ScL p j L → ScL p (j + 1) L
  | take {j : Nat} {L : List (List HV)} {c : List HV} : Beg p (j : Int) → Rch p 0 j → IsSc p j c → ScL p j L → ScL p (j + 1) (L ++ [c])
theorem ScL.only {p : List Ins} {j : Nat} {L : List (List HV)} (h : ScL p j L) : ∀ {L'}, ScL p j L' → L' = L := by
  induction h with
  | zero => intro L' h'; cases h'; rfl
  | skip hn _ ih =>
    intro L' h'
    cases h' with
    | skip _ h' => exact ih h'
    | take h1 h2 _ _ => exact absurd ⟨h1, h2⟩ hn
  | take h1 h2 hs _ ih =>
    intro L' h'
    cases h' with
    | skip hn _ => exact absurd ⟨h1, h2⟩ hn
    | take _ _ hs' h' => rw [ih h', hs'.only hs]
theorem ScL.trim {p : List Ins} (hc : CanB p) {j : Nat} {L : List (List HV)} (h : ScL p j L) : j ≤ p.length → ScL (trim1 p) (kp p j) L := by
  induction h with
  | zero => intro _; rw [kp_zero]; exact .zero
  | @skip j L hn _ ih =>
    intro hj
    have hj' : j < p.length := hj
    have ih := ih (by omega)
    by_cases hid : idleP p j
    · rw [kp_idle hj' hid]; exact ih
    · rw [kp_kept hj' hid]
      refine .skip ?_ ih
      rintro ⟨⟨_, k, hk, hkl, h4⟩, _⟩
      have : k = kp p j := by omega
      subst this
      obtain ⟨_, he⟩ := trim1_getE hj' hid
      rw [he, (movedI_op _ _).1] at h4
      exact hn ⟨⟨hc, j, rfl, hj', h4⟩, kept_rch hj' (by omega) hid⟩
  | @take j L c hb hr hs _ ih =>
    intro hj
    have hj' : j < p.length := hj
    have ih := ih (by omega)
    obtain ⟨_, k, hk, hkl, h4⟩ := hb
    have : k = j := by omega
    subst this
    have hid : ¬ idleP p k := fun hh => (idle_begin hj' h4).1 hh hr
    obtain ⟨h1, he⟩ := trim1_getE hj' hid
    rw [kp_kept hj' hid]
    refine .take ⟨can_trim hc, _, rfl, h1, by rw [he, (movedI_op _ _).1]; exact h4⟩ ?_ (isSc_trim hc hr hs) ih
    have := (rch_trim hc (a := 0) .refl hr).2
    rw [kp_zero] at this
    exact this
/-- all of it, for a program trimmed till nothing goes. -/
theorem Trims.bounds {p q : List Ins} (h : Trims p q) : CanF p → Bd q 0 ≤ Bd p 0 ∧ totB q q.length ≤ totB p p.length ∧ ∀ L, ScL p p.length L → ScL q q.length L := by
  have one : ∀ {p : List Ins}, CanF p → Bd (trim1 p) 0 ≤ Bd p 0 ∧ totB (trim1 p) (trim1 p).length ≤ totB p p.length ∧ ∀ L, ScL p p.length L → ScL (trim1 p) (trim1 p).length L := by
    intro p hp
    refine ⟨?_, ?_, fun L hL => ?_⟩
    · have := Bd_trim hp.1 _ 0 rfl (by omega) .refl
      rw [kp_zero] at this; exact this
    · rw [trim1_len]; exact totB_trim hp.1 _ (Nat.le_refl _)
    · rw [trim1_len]; exact hL.trim hp.1 (Nat.le_refl _)
  induction h with
  | last _ => exact fun hp => one hp
  | more _ _ ih =>
    intro hp
    obtain ⟨a1, a2, a3⟩ := one hp
    obtain ⟨b1, b2, b3⟩ := ih (canF_chain.next _ hp)
    exact ⟨Int.le_trans b1 a1, Int.le_trans b2 a2, fun L hL => b3 L (a3 L hL)⟩
end Go.Proofs.Ytijppadieomnjaa.HT
namespace Go.Proofs.Ytijppadieomnjaa.HT
open Go

/-- a row of rows being built, in memory from lo on. -/
structure Gr (H : Heap) (lo : Nat) (s : Sl) (sz : Nat) (L : List (List HV)) : Prop where
  lon : lo ≤ H.n
  szs : ∀ l ∈ L, l.length = sz
  lt : L.length ≤ 9223372036854775807
  mem : (s = ⟨none, 0, 0, none⟩ ∧ L = []) ∨ ∃ b, s = ⟨some (b, 0), L.length, L.length, some sz⟩ ∧ lo ≤ b ∧ b < H.n ∧ H.get b = .cells L.flatten false
theorem Gr.own {H : Heap} {lo sz : Nat} {s : Sl} {L : List (List HV)} (h : Gr H lo s sz L) : Own ⟨lo, H.get⟩ H s sz L :=
  ⟨⟨h.lon, fun _ _ => rfl⟩, h.szs, h.lt, h.mem⟩
theorem Gr.nil {H : Heap} {lo : Nat} (h : lo ≤ H.n) (sz : Nat) : Gr H lo ⟨none, 0, 0, none⟩ sz [] := ⟨h, by simp, by simp, .inl ⟨rfl, rfl⟩⟩
theorem Gr.but {M : Nat → Prop} {H H' : Heap} {lo sz : Nat} {s : Sl} {L : List (List HV)} (h : Gr H lo s sz L) (k : But M H H') (hM : ∀ b, lo ≤ b → b < H.n → ¬ M b) : Gr H' lo s sz L :=
  ⟨Nat.le_trans h.lon k.n, h.szs, h.lt, by
    rcases h.mem with h1 | ⟨b, h1, h2, h3, h4⟩
    · exact .inl h1
    · exact .inr ⟨b, h1, h2, Nat.lt_of_lt_of_le h3 k.n, by rw [k.get b h3 (hM b h2 h3)]; exact h4⟩⟩
theorem Gr.keeps {H H' : Heap} {lo sz : Nat} {s : Sl} {L : List (List HV)} (h : Gr H lo s sz L) (k : Keeps H H') : Gr H' lo s sz L := h.but (M := fun _ => False) k.but (fun _ _ _ h => h)
theorem Gr.set {H : Heap} {lo sz : Nat} {s : Sl} {L : List (List HV)} (h : Gr H lo s sz L) {b : Nat} (hb : b < lo) (o : HObj) : Gr (H.set b o) lo s sz L :=
  h.but (M := fun x => x = b) ((But.refl (fun x => x = b) H).set (b := b) rfl o) (fun x hx _ e => by omega)
/-- one more. -/
theorem Gr.add {α : Type} {Q : α → Heap → Prop} {H : Heap} {lo sz by_ : Nat} {s : Sl} {L : List (List HV)} (h : Gr H lo s sz L) {l : List HV} (hl : l.length = sz) (hsz : 0 < sz) (hr : (L.length + 1) * by_ ≤ room) (hr2 : L.length + 1 ≤ room) {f : Sl → M α}
    (hf : ∀ s' H', Gr H' lo s' sz (L ++ [l]) → But (fun b => lo ≤ b) H H' → wp (f s') Q H') : wp (apd s sz by_ 1 l f) Q H := by
  refine wp_apd h.own hl hsz hr hr2 fun s' H' ho hk hn _ => hf s' H' ⟨ho.keeps.n, ho.szs, ho.lt, ho.mem⟩ ⟨hn, fun b hb hm => hk b hb fun hp => ?_⟩
  rcases h.mem with ⟨rfl, _⟩ | ⟨b2, rfl, h2, _⟩
  · cases hp
  · cases hp; exact hm h2
theorem Gr.slR {H : Heap} {lo sz : Nat} {s : Sl} {L : List (List HV)} (h : Gr H lo s sz L) : SlR H s sz L := h.own.slR

theorem ScL.len {p : List Ins} {j : Nat} {L : List (List HV)} (h : ScL p j L) : L.length ≤ j ∧ ∀ c ∈ L, ∃ S : Sco, c = S.cells := by
  induction h with
  | zero => simp
  | skip _ _ ih => exact ⟨by omega, ih.2⟩
  | take _ _ hs _ ih =>
    obtain ⟨e, S, _, _, rfl⟩ := hs
    refine ⟨by simp; omega, fun c hc => ?_⟩
    rcases List.mem_append.1 hc with hc | hc
    · exact ih.2 c hc
    · simp at hc; exact ⟨S, hc⟩

/-- the rounds over the second one's. -/
structure T2 (H : Heap) (lo b9 l : Nat) (t : Sl) (L : List (List HV)) (st : LoopState) (ws : List (Nat × HV)) : Prop where
  lp : Lop H l 26824521 ws st none
  c9 : Cel H b9 (.sl t)
  gr : Gr H lo t 15 L
end Go.Proofs.Ytijppadieomnjaa.HT
