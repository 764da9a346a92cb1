/- Bounds of programs that can be. Conditions: none (plain lemmas). -/
import Derived.Test.YtolchnaegifckaaHSMd
import Derived.Test.YtolchnaegifckaaHSCf
namespace Go.Proofs.Ytolchnaegifckaa.HS
open Go

/-- jumps lead on, within the program. -/
def Fwd (p : List Ins) : Prop := ∀ i (hi : i < p.length), (p[i]).op = 3 ∨ (p[i]).op = 20 → (i : Int) < (p[i]).a ∧ (p[i]).a ≤ p.length
theorem CanB.fwd {p : List Ins} (h : CanB p) : Fwd p := fun i hi ho => ⟨((h.one i hi).goal ho).1, ((h.one i hi).goal ho).2.1⟩
def imax (a b : Int) : Int := if b > a then b else a
/-- a bound, by those of other places. -/
def oneB (x : Ins) (nx go : Int) : Int :=
  if x.op = 0 ∨ x.op = 5 ∨ x.op = 19 then 1 else if x.op = 20 then 1 + nx + go else if x.op = 3 then (if x.c = 2 then 1 + go else 1 + imax nx go) else 1 + nx
def bnd' (p : List Ins) : Nat → Nat → Int
  | 0, _ => 0
  | k + 1, i => match p[i]? with
    | none => 0
    | some x => oneB x (bnd' p k (i + 1)) (bnd' p k x.a.toNat)
def Bd (p : List Ins) (i : Nat) : Int := bnd' p (p.length - i) i
theorem oneB_congr {x : Ins} {a b c d : Int} (h1 : a = c) (h2 : x.op = 3 ∨ x.op = 20 → b = d) : oneB x a b = oneB x c d := by
  subst h1
  unfold oneB
  split
  · rfl
  split
  · rename_i h; rw [h2 (.inr h)]
  split
  · rename_i h; rw [h2 (.inl h)]
  · rfl
theorem bnd'_out {p : List Ins} {k i : Nat} (hi : p.length ≤ i) : bnd' p k i = 0 := by
  cases k with
  | zero => rfl
  | succ k => unfold bnd'; rw [List.getElem?_eq_none hi]
theorem bnd'_fuel {p : List Ins} (hf : Fwd p) : ∀ (k i : Nat), p.length - i ≤ k → bnd' p k i = bnd' p (p.length - i) i := by
  have key : ∀ (m k k' i : Nat), p.length - i ≤ m → p.length - i ≤ k → p.length - i ≤ k' → bnd' p k i = bnd' p k' i := by
    intro m
    induction m with
    | zero => intro k k' i h0 _ _; rw [bnd'_out (by omega), bnd'_out (by omega)]
    | succ m ih =>
      intro k k' i h0 h1 h2
      by_cases hi : i < p.length
      · cases k with
        | zero => omega
        | succ k =>
          cases k' with
          | zero => omega
          | succ k' =>
            unfold bnd'
            rw [List.getElem?_eq_getElem hi]
            refine oneB_congr (ih k k' (i + 1) (by omega) (by omega) (by omega)) fun ho => ?_
            have := hf i hi ho
            exact ih k k' _ (by omega) (by omega) (by omega)
      · rw [bnd'_out (by omega), bnd'_out (by omega)]
  intro k i h
  exact key _ k _ i (Nat.le_refl _) h (Nat.le_refl _)
theorem Bd_end {p : List Ins} {i : Nat} (h : p.length ≤ i) : Bd p i = 0 := bnd'_out h
theorem Bd_eq {p : List Ins} (hf : Fwd p) {i : Nat} (hi : i < p.length) : Bd p i = oneB p[i] (Bd p (i + 1)) (Bd p (p[i]).a.toNat) := by
  unfold Bd
  obtain ⟨k, hk⟩ : ∃ k, p.length - i = k + 1 := ⟨p.length - i - 1, by omega⟩
  rw [hk]
  conv => lhs; unfold bnd'
  rw [List.getElem?_eq_getElem hi]
  refine oneB_congr ?_ fun ho => ?_
  · rw [bnd'_fuel hf k (i + 1) (by omega)]
  · have := hf i hi ho
    exact bnd'_fuel hf k _ (by omega)

theorem pow_le {a b : Nat} (h : a ≤ b) : (2 : Int) ^ a ≤ 2 ^ b := by
  have := Nat.pow_le_pow_right (n := 2) (by omega) h
  exact_mod_cast this
theorem opn_le_end {p : List Ins} (hs : Shaped p) {i : Nat} (hi : i < p.length) : opn p i = Blk p i := by
  by_cases h4 : (p[i]).op = 4
  · have h1 := (hs.1 i hi).1 h4
    have h2 := opn_ge p i
    rw [Blk_eq hi, if_pos h4]; omega
  · rw [Blk_eq hi, if_neg h4]
/-- within a block the ways that were told grow. -/
theorem ways_mono {p : List Ins} {at_ : Int} (h0 : 0 ≤ at_) {i : Nat} (hi : at_ < i) : ∀ {k : Nat}, i ≤ k → k ≤ p.length → opn p k = at_ → opn p i = at_ ∧ waysR p i ≤ waysR p k := by
  intro k hk
  induction k with
  | zero => intro _ _; omega
  | succ k ih =>
    intro hkp ho
    rcases Nat.lt_or_ge k i with h | h
    · have : i = k + 1 := by omega
      subst this; exact ⟨ho, Nat.le_refl _⟩
    · have hk' : k < p.length := by omega
      have h1 := opn_succ hk'
      have h2 := waysR_succ hk'
      rw [ho] at h1
      split at h1
      · omega
      split at h1
      · omega
      · rename_i h4 h5
        obtain ⟨a, b⟩ := ih (by omega) (by omega) h1.symm
        refine ⟨a, ?_⟩
        rw [h2, if_neg h4]
        split <;> omega
theorem waysR_le3 {p : List Ins} (h : CanC p) : ∀ i, i ≤ p.length → waysR p i ≤ 3 := by
  intro i
  induction i with
  | zero => intro _; simp [waysR]
  | succ i ih =>
    intro hi
    have h1 := ih (by omega)
    have h2 := waysR_succ (p := p) (i := i) (by omega)
    have h3 := (h.good i (by omega)).2.2.2.1
    rw [h2]
    split
    · omega
    split
    · rename_i h20
      have : ¬ 3 ≤ waysR p i := fun hh => h3 ⟨h20, hh⟩
      omega
    · omega

def wgt (p : List Ins) (i : Nat) : Int := if 0 ≤ opn p i then 2 ^ (3 - waysR p i) else 8
theorem wgt_pos (p : List Ins) (i : Nat) : 1 ≤ wgt p i ∧ wgt p i ≤ 8 := by
  unfold wgt
  split
  · have h1 := pow_le (a := 0) (b := 3 - waysR p i) (by omega)
    have h2 := pow_le (a := 3 - waysR p i) (b := 3) (by omega)
    simp at h1 h2; omega
  · omega
theorem Bd_bounds {p : List Ins} (hc : CanB p) : ∀ (m i : Nat), p.length - i ≤ m → 0 ≤ Bd p i ∧ (i < p.length → 1 ≤ Bd p i) ∧ (i ≤ p.length → Bd p i ≤ wgt p i * ((p.length : Int) - i)) := by
  have hcc := canC_iff.2 hc
  have hf := hc.fwd
  intro m
  induction m with
  | zero =>
    intro i h
    have h1 := Bd_end (p := p) (i := i) (by omega)
    refine ⟨by omega, fun _ => by omega, fun h2 => ?_⟩
    have : (p.length : Int) - i = 0 := by omega
    rw [h1, this]; omega
  | succ m ih =>
    intro i h
    by_cases hi : i < p.length
    · have he := Bd_eq hf hi
      obtain ⟨n0, _, n2⟩ := ih (i + 1) (by omega)
      have n2 := n2 (by omega)
      have hg := hc.one i hi
      have hopn := opn_le_end hc.shaped hi
      have hop := opn_succ hi
      have hwy := waysR_succ hi
      have hlt := opn_lt p i
      have hw3 := waysR_le3 hcc i (by omega)
      have hw31 := waysR_le3 hcc (i + 1) (by omega)
      obtain ⟨w1, w2⟩ := wgt_pos p i
      obtain ⟨w3, w4⟩ := wgt_pos p (i + 1)
      have tgt : (p[i]).op = 3 ∨ (p[i]).op = 20 → 0 ≤ Bd p (p[i]).a.toNat ∧ Bd p (p[i]).a.toNat ≤ wgt p (p[i]).a.toNat * ((p.length : Int) - (p[i]).a) ∧ (i : Int) < (p[i]).a ∧ (p[i]).a ≤ p.length := by
        intro ho
        have hfw := hf i hi ho
        obtain ⟨t0, _, t2⟩ := ih (p[i]).a.toNat (by omega)
        have t2 := t2 (by omega)
        rw [show (((p[i]).a.toNat : Nat) : Int) = (p[i]).a from by omega] at t2
        exact ⟨t0, t2, hfw⟩
      have hpos : 0 ≤ Bd p i ∧ 1 ≤ Bd p i := by
        rw [he]
        unfold oneB imax
        split
        · omega
        split
        · rename_i h20
          have := (tgt (.inr h20)).1; omega
        split
        · rename_i h3
          have := (tgt (.inl h3)).1
          split
          · omega
          · split <;> omega
        · omega
      refine ⟨hpos.1, fun _ => hpos.2, fun _ => ?_⟩
      have nxle : (p[i]).op ≠ 5 → Bd p (i + 1) ≤ wgt p i * ((p.length : Int) - i - 1) := by
        intro h5
        have hw : wgt p (i + 1) ≤ wgt p i := by
          by_cases h4 : (p[i]).op = 4
          · have hb := hg.out (.inr h4)
            have : wgt p i = 8 := by unfold wgt; rw [if_neg (by omega)]
            omega
          · unfold wgt
            rw [hop, if_neg h4, if_neg h5, hwy, if_neg h4]
            split
            · refine pow_le ?_
              split <;> omega
            · omega
        have hnn : 0 ≤ (p.length : Int) - i - 1 := by omega
        have := Int.mul_le_mul_of_nonneg_right hw hnn
        rw [show ((i + 1 : Nat) : Int) = (i : Int) + 1 from rfl] at n2
        rw [show (p.length : Int) - ((i : Int) + 1) = (p.length : Int) - i - 1 from by omega] at n2
        omega
      have tgle : (p[i]).op = 3 ∨ (p[i]).op = 20 → Bd p (p[i]).a.toNat ≤ wgt p i * ((p.length : Int) - i - 1) := by
        intro ho
        obtain ⟨t0, t1, t2, t3⟩ := tgt ho
        obtain ⟨_, _, ge, gl⟩ := hg.goal ho
        have hw : (p[i]).a < p.length → wgt p (p[i]).a.toNat ≤ wgt p i := by
          intro ha
          have hb := gl ha
          rw [← opn_le_end hc.shaped (by omega), ← hopn] at hb
          unfold wgt
          rw [hb]
          split
          · rename_i hge
            have := (ways_mono hge (i := i) (by omega) (k := (p[i]).a.toNat) (by omega) (by omega) hb).2
            exact pow_le (by omega)
          · omega
        by_cases ha : (p[i]).a < p.length
        · have h1 := Int.mul_le_mul_of_nonneg_right (hw ha) (show 0 ≤ (p.length : Int) - (p[i]).a from by omega)
          have h2 := Int.mul_le_mul_of_nonneg_left (show (p.length : Int) - (p[i]).a ≤ (p.length : Int) - i - 1 from by omega) (show 0 ≤ wgt p i from by omega)
          omega
        · have : (p.length : Int) - (p[i]).a = 0 := by omega
          rw [this] at t1
          have h2 := Int.mul_le_mul_of_nonneg_left (show (0 : Int) ≤ (p.length : Int) - i - 1 from by omega) (show 0 ≤ wgt p i from by omega)
          omega
      have hexp : wgt p i * ((p.length : Int) - i) = wgt p i * ((p.length : Int) - i - 1) + wgt p i := by
        obtain ⟨d, hd⟩ : ∃ d : Int, (p.length : Int) - i - 1 = d := ⟨_, rfl⟩
        rw [hd, show (p.length : Int) - i = d + 1 from by omega, Int.mul_add, Int.mul_one]
      have hnn : 0 ≤ wgt p i * ((p.length : Int) - i - 1) := Int.mul_nonneg (by omega) (by omega)
      rw [he, hexp]
      unfold oneB imax
      split
      · omega
      split
      · rename_i h20
        -- an Else: both ways have half the weight
        obtain ⟨t0, t1, t2, t3⟩ := tgt (.inr h20)
        obtain ⟨_, _, ge, gl⟩ := hg.goal (.inr h20)
        have hin := hg.ins (by omega)
        rw [← hopn] at hin
        have hnw : ¬ 3 ≤ waysR p i := fun hh => (hcc.good i hi).2.2.2.1 ⟨h20, hh⟩
        have hwi : wgt p i = 2 * 2 ^ (2 - waysR p i) := by
          unfold wgt
          rw [if_pos hin, show 3 - waysR p i = (2 - waysR p i) + 1 from by omega, Int.pow_succ, Int.mul_comm]
        have hw1 : wgt p (i + 1) = 2 ^ (2 - waysR p i) := by
          unfold wgt
          have h4 : ¬ (p[i]).op = 4 := by omega
          have h5 : ¬ (p[i]).op = 5 := by omega
          rw [hop, if_neg h4, if_neg h5, if_pos hin, hwy, if_neg h4, if_pos h20]
          congr 1
          omega
        have ha : (p[i]).a < p.length := by
          rcases Int.lt_or_eq_of_le t3 with hh | hh
          · exact hh
          · have := ge hh; rw [← hopn] at this; omega
        have hb := gl ha
        rw [← opn_le_end hc.shaped (by omega), ← hopn] at hb
        have hmono := (ways_mono hin (i := i + 1) (by omega) (k := (p[i]).a.toNat) (by omega) (by omega) hb).2
        rw [hwy, if_neg (by omega), if_pos h20] at hmono
        have hwa : wgt p (p[i]).a.toNat ≤ 2 ^ (2 - waysR p i) := by
          unfold wgt
          rw [hb, if_pos hin]
          exact pow_le (by omega)
        have hp1 : (1 : Int) ≤ 2 ^ (2 - waysR p i) := by
          have := pow_le (a := 0) (b := 2 - waysR p i) (by omega); simpa using this
        rw [hw1, show ((i + 1 : Nat) : Int) = (i : Int) + 1 from rfl, show (p.length : Int) - ((i : Int) + 1) = (p.length : Int) - i - 1 from by omega] at n2
        have h1 := Int.mul_le_mul_of_nonneg_right hwa (show 0 ≤ (p.length : Int) - (p[i]).a from by omega)
        have h2 := Int.mul_le_mul_of_nonneg_left (show (p.length : Int) - (p[i]).a ≤ (p.length : Int) - i - 1 from by omega) (show (0 : Int) ≤ 2 ^ (2 - waysR p i) from by omega)
        rw [hwi, Int.mul_assoc]
        omega
      split
      · rename_i h3
        have t := tgle (.inl h3)
        have n := nxle (by omega)
        split
        · omega
        · split <;> omega
      · rename_i h1 h2 h3
        have n := nxle (by intro h5; exact h1 (.inr (.inl h5)))
        omega
    · have h1 := Bd_end (p := p) (i := i) (by omega)
      refine ⟨by omega, fun hh => absurd hh hi, fun h2 => ?_⟩
      have : (p.length : Int) - i = 0 := by omega
      rw [h1, this]; omega
theorem Bd_nonneg {p : List Ins} (hc : CanB p) (i : Nat) : 0 ≤ Bd p i := (Bd_bounds hc _ i (Nat.le_refl _)).1
theorem Bd_le {p : List Ins} (hc : CanB p) {i : Nat} (hi : i ≤ p.length) : Bd p i ≤ 8 * ((p.length : Int) - i) := by
  have h1 := (Bd_bounds hc _ i (Nat.le_refl _)).2.2 hi
  have h2 := (wgt_pos p i).2
  have := Int.mul_le_mul_of_nonneg_right h2 (show 0 ≤ (p.length : Int) - i from by omega)
  omega
theorem Bd_small {p : List Ins} (hc : CanB p) (i : Nat) : Bd p i ≤ 400 := by
  rcases Nat.lt_or_ge p.length i with h | h
  · rw [Bd_end (by omega)]; omega
  · have := Bd_le hc h
    have := hc.len
    omega
end Go.Proofs.Ytolchnaegifckaa.HS
namespace Go.Proofs.Ytolchnaegifckaa.HS
open Go

theorem eqI {Q : HV → Heap → Prop} {H : Heap} {a b : Int} (h : Q (I a) H) (e : a = b) : Q (I b) H := by subst e; exact h
theorem wrs : ∀ z : Int, -1000000000 ≤ z → z ≤ 1000000000 → wr z = z := fun z h1 h2 => wr_small (by omega) (by omega)
theorem getD_lt {w : List Int} {k : Nat} (h : k < w.length) : w.getD k 0 = w[k] := by rw [List.getD_eq_getElem?_getD, List.getElem?_eq_getElem h]; rfl
theorem bound_one_wp {D : HV → List HV → M HV} {H : Heap} {Q : HV → Heap → Prop} {t : Sl} {w : List Int} (ht : RInts H t w) {x : Ins} {i : Nat} (hi : i + 1 < w.length) (hi2 : i ≤ 1000) (ha : x.op = 3 ∨ x.op = 20 → 0 ≤ x.a ∧ x.a.toNat < w.length)
    (hw : ∀ y ∈ w, 0 ≤ y ∧ y ≤ 1000) (h : Q (I (oneB x (w.getD (i + 1) 0) (w.getD x.a.toNat 0))) H) : wp (f_bound_one D [.agg x.cs, I i, .sl t]) Q H := by
  unfold f_bound_one
  have h1 : wr ((i : Int) + 1) = ((i + 1 : Nat) : Int) := by rw [wr_small (by omega) (by omega)]; rfl
  have g1 := getD_lt hi
  have b1 := hw _ (List.getElem_mem hi)
  have hwr := wrs
  with_reducible repeat' (first | refine wp_finF ?_ | refine wp_uA ?_ | refine wp_uI ?_ | refine wp_uB ?_ | refine wp_uL ?_ | refine wp_uS ?_ | refine wp_uP ?_ | refine wp_uc ?_ | refine wp_nl ?_ | refine wp_asB ?_ | refine wp_asI ?_ | refine wp_asSl ?_ | refine wp_asT ?_ | refine wp_asA ?_ | refine wp_asS ?_ | refine wp_asP ?_ | refine wp_nN ?_ | refine wp_rN ?_ | refine wp_xN ?_ | refine wp_nB ?_ | refine wp_rB ?_ | refine wp_xB rfl ?_ | refine wp_xB' rfl ?_ | refine wp_bB ?_ | refine wp_rX ?_ | refine wp_xX ?_ | refine wp_rE ?_ | refine wp_xE ?_ | refine wp_rR ?_ | refine wp_xR ?_ | refine wp_r0 ?_ | refine wp_x0 ?_ | refine wp_rF ?_ | refine wp_rF0 ?_ | refine wp_rF2 ?_ | refine wp_rF3 ?_ | refine wp_rF4 ?_ | refine wp_condT ?_ | refine wp_condF ?_ | refine wp_condNT ?_ | refine wp_condNF ?_)
  rw [h1]
  by_cases hj : x.op = 3 ∨ x.op = 20
  · obtain ⟨ha0, hal⟩ := ha hj
    have g2 := getD_lt hal
    have b2 := hw _ (List.getElem_mem hal)
    have ea : x.a = ((x.a.toNat : Nat) : Int) := by omega
    with_reducible repeat' (first | refine wp_finF ?_ | refine wp_uA ?_ | refine wp_uI ?_ | refine wp_uB ?_ | refine wp_uL ?_ | refine wp_uS ?_ | refine wp_uP ?_ | refine wp_uc ?_ | refine wp_nl ?_ | refine wp_asB ?_ | refine wp_asI ?_ | refine wp_asSl ?_ | refine wp_asT ?_ | refine wp_asA ?_ | refine wp_asS ?_ | refine wp_asP ?_ | refine wp_jn ?_ | refine wp_nN ?_ | refine wp_rN ?_ | refine wp_xN ?_ | refine wp_nB ?_ | refine wp_rB ?_ | refine wp_xB rfl ?_ | refine wp_xB' rfl ?_ | refine wp_bB ?_ | refine wp_rX ?_ | refine wp_xX ?_ | refine wp_rE ?_ | refine wp_xE ?_ | refine wp_rR ?_ | refine wp_xR ?_ | refine wp_r0 ?_ | refine wp_x0 ?_ | refine wp_rF ?_ | refine wp_rF0 ?_ | refine wp_rF2 ?_ | refine wp_rF3 ?_ | refine wp_rF4 ?_ | refine wp_condT ?_ | refine wp_condF ?_ | refine wp_condNT ?_ | refine wp_condNF ?_ | refine wp_condD (fun _ => ?_) (fun _ => ?_) | refine wp_condE (fun _ => ?_) (fun _ => ?_) | refine wp_condNE (fun _ => ?_) (fun _ => ?_) | refine wp_condN (fun _ => ?_) (fun _ => ?_) | refine wp_cond (fun _ => ?_) (fun _ => ?_) | refine wp_atI ht hi fun _ _ => ?_ | refine wp_atI' ht ea hal fun _ _ => ?_)
    all_goals
      refine eqI h ?_
      rw [g1, g2]
      clear h ha ht hw g1 g2 h1
      generalize w[i + 1] = u at *
      generalize w[x.a.toNat] = v at *
      unfold oneB imax
      grind
  · with_reducible repeat' (first | refine wp_finF ?_ | refine wp_uA ?_ | refine wp_uI ?_ | refine wp_uB ?_ | refine wp_uL ?_ | refine wp_uS ?_ | refine wp_uP ?_ | refine wp_uc ?_ | refine wp_nl ?_ | refine wp_asB ?_ | refine wp_asI ?_ | refine wp_asSl ?_ | refine wp_asT ?_ | refine wp_asA ?_ | refine wp_asS ?_ | refine wp_asP ?_ | refine wp_jn ?_ | refine wp_nN ?_ | refine wp_rN ?_ | refine wp_xN ?_ | refine wp_nB ?_ | refine wp_rB ?_ | refine wp_xB rfl ?_ | refine wp_xB' rfl ?_ | refine wp_bB ?_ | refine wp_rX ?_ | refine wp_xX ?_ | refine wp_rE ?_ | refine wp_xE ?_ | refine wp_rR ?_ | refine wp_xR ?_ | refine wp_r0 ?_ | refine wp_x0 ?_ | refine wp_rF ?_ | refine wp_rF0 ?_ | refine wp_rF2 ?_ | refine wp_rF3 ?_ | refine wp_rF4 ?_ | refine wp_condT ?_ | refine wp_condF ?_ | refine wp_condNT ?_ | refine wp_condNF ?_ | refine wp_condD (fun _ => ?_) (fun _ => ?_) | refine wp_condE (fun _ => ?_) (fun _ => ?_) | refine wp_condNE (fun _ => ?_) (fun _ => ?_) | refine wp_condN (fun _ => ?_) (fun _ => ?_) | refine wp_cond (fun _ => ?_) (fun _ => ?_) | refine wp_atI ht hi fun _ _ => ?_)
    all_goals first
      | (exfalso; omega)
      | (refine eqI h ?_
         rw [g1]
         clear h ha ht hw g1 h1
         generalize w[i + 1] = u at *
         unfold oneB
         grind)

def bdW (p : List Ins) (j : Nat) : List Int := (List.range (p.length + 1)).map fun k => if p.length - j ≤ k then Bd p k else 0
def bds (p : List Ins) : List Int := (List.range (p.length + 1)).map (Bd p)
theorem bds_len {p : List Ins} : (bds p).length = p.length + 1 := by simp [bds]
theorem bdW_len {p : List Ins} {i : Nat} : (bdW p i).length = p.length + 1 := by simp [bdW]
theorem bdW_get {p : List Ins} {i k : Nat} (hk : k < p.length + 1) : (bdW p i)[k]? = some (if p.length - i ≤ k then Bd p k else 0) := by simp [bdW, hk]
theorem bdW_all {p : List Ins} : bdW p p.length = bds p := by
  unfold bdW bds
  apply List.map_congr_left
  intro k hk
  rw [if_pos (by omega)]
theorem bdW_getD {p : List Ins} {i k : Nat} (hk : k < p.length + 1) : (bdW p i).getD k 0 = if p.length - i ≤ k then Bd p k else 0 := by
  rw [List.getD_eq_getElem?_getD, bdW_get hk]; rfl
theorem bound_Most_wp {D : HV → List HV → M HV} {H : Heap} {Q : HV → Heap → Prop} {s : Sl} {p : List Ins} (hs : RProg H s p) (hf : ∀ x ∈ p, IFit x)
    (h1 : CanB p → ∀ b H', Keeps H H' → H.n ≤ b → Nums H' b (bds p) → Q (.sl (numSl b (p.length + 1))) H') (h2 : ¬ CanB p → ∀ H', Keeps H H' → Q (.sl ⟨none, 0, 0, none⟩) H') : wp (f_bound_Most D [.sl s]) Q H := by
  unfold f_bound_Most
  have hlen := hs.len
  with_reducible repeat' (first | refine wp_finF ?_ | refine wp_uA ?_ | refine wp_uI ?_ | refine wp_uB ?_ | refine wp_uL ?_ | refine wp_uS ?_ | refine wp_uP ?_ | refine wp_uc ?_ | refine wp_nl ?_ | refine wp_asB ?_ | refine wp_asI ?_ | refine wp_asSl ?_ | refine wp_asT ?_ | refine wp_asA ?_ | refine wp_asS ?_ | refine wp_asP ?_ | refine wp_nN ?_ | refine wp_rN ?_ | refine wp_xN ?_ | refine wp_nB ?_ | refine wp_rB ?_ | refine wp_xB rfl ?_ | refine wp_xB' rfl ?_ | refine wp_bB ?_ | refine wp_rX ?_ | refine wp_xX ?_ | refine wp_rE ?_ | refine wp_xE ?_ | refine wp_rR ?_ | refine wp_xR ?_ | refine wp_r0 ?_ | refine wp_x0 ?_ | refine wp_rF ?_ | refine wp_rF0 ?_ | refine wp_rF2 ?_ | refine wp_rF3 ?_ | refine wp_rF4 ?_ | refine wp_condT ?_ | refine wp_condF ?_ | refine wp_condNT ?_ | refine wp_condNF ?_)
  refine wp_bnd (bound_can_wp hs hf fun z H1 hk hz => ?_)
  cases z
  · with_reducible repeat' (first | refine wp_finF ?_ | refine wp_uA ?_ | refine wp_uI ?_ | refine wp_uB ?_ | refine wp_uL ?_ | refine wp_uS ?_ | refine wp_uP ?_ | refine wp_uc ?_ | refine wp_nl ?_ | refine wp_asB ?_ | refine wp_asI ?_ | refine wp_asSl ?_ | refine wp_asT ?_ | refine wp_asA ?_ | refine wp_asS ?_ | refine wp_asP ?_ | refine wp_jn ?_ | refine wp_nN ?_ | refine wp_rN ?_ | refine wp_xN ?_ | refine wp_nB ?_ | refine wp_rB ?_ | refine wp_xB rfl ?_ | refine wp_xB' rfl ?_ | refine wp_bB ?_ | refine wp_rX ?_ | refine wp_xX ?_ | refine wp_rE ?_ | refine wp_xE ?_ | refine wp_rR ?_ | refine wp_xR ?_ | refine wp_r0 ?_ | refine wp_x0 ?_ | refine wp_rF ?_ | refine wp_rF0 ?_ | refine wp_rF2 ?_ | refine wp_rF3 ?_ | refine wp_rF4 ?_ | refine wp_condT ?_ | refine wp_condF ?_ | refine wp_condNT ?_ | refine wp_condNF ?_ | refine wp_condD (fun _ => ?_) (fun _ => ?_) | refine wp_condE (fun _ => ?_) (fun _ => ?_) | refine wp_condNE (fun _ => ?_) (fun _ => ?_) | refine wp_condN (fun _ => ?_) (fun _ => ?_) | refine wp_cond (fun _ => ?_) (fun _ => ?_))
    exact h2 (fun hc => by have := hz.2 hc; cases this) H1 hk
  have hc := hz.1 rfl
  have h48 := hc.len
  with_reducible repeat' (first | refine wp_finF ?_ | refine wp_uA ?_ | refine wp_uI ?_ | refine wp_uB ?_ | refine wp_uL ?_ | refine wp_uS ?_ | refine wp_uP ?_ | refine wp_uc ?_ | refine wp_nl ?_ | refine wp_asB ?_ | refine wp_asI ?_ | refine wp_asSl ?_ | refine wp_asT ?_ | refine wp_asA ?_ | refine wp_asS ?_ | refine wp_asP ?_ | refine wp_nN ?_ | refine wp_rN ?_ | refine wp_xN ?_ | refine wp_nB ?_ | refine wp_rB ?_ | refine wp_xB rfl ?_ | refine wp_xB' rfl ?_ | refine wp_bB ?_ | refine wp_rX ?_ | refine wp_xX ?_ | refine wp_rE ?_ | refine wp_xE ?_ | refine wp_rR ?_ | refine wp_xR ?_ | refine wp_r0 ?_ | refine wp_x0 ?_ | refine wp_rF ?_ | refine wp_rF0 ?_ | refine wp_rF2 ?_ | refine wp_rF3 ?_ | refine wp_rF4 ?_ | refine wp_condT ?_ | refine wp_condF ?_ | refine wp_condNT ?_ | refine wp_condNF ?_)
  have e1 : wr ((s.len : Int) + 1) = ((p.length + 1 : Nat) : Int) := by rw [hlen, wr_small (by omega) (by omega)]; rfl
  rw [e1]
  refine wp_gdD (by omega) (wp_gdD (by omega) (wp_gdD (by simp only [room, Int.toNat_natCast]; omega) (wp_nw ?_)))
  have hsl : (⟨some (H1.n, 0), ((p.length + 1 : Nat) : Int).toNat, ((p.length + 1 : Nat) : Int).toNat, none⟩ : Sl) = numSl H1.n (p.length + 1) := by simp [numSl]
  rw [hsl]
  have hn0 : Nums (H1.push (.cells (repL ((p.length + 1 : Nat) : Int).toNat [I 0]) false)) H1.n (bdW p 0) := by
    refine ⟨by simp [Heap.push], ?_, by rw [bdW_len]; omega⟩
    simp only [Heap.push, if_pos]
    rw [repL_one]
    congr 1
    apply List.ext_getElem?
    intro j
    rw [List.getElem?_map]
    simp only [Int.toNat_natCast, List.getElem?_replicate]
    by_cases hj : j < p.length + 1
    · rw [bdW_get hj, if_pos hj]
      split
      · rw [Bd_end (by omega)]; rfl
      · rfl
    · rw [List.getElem?_eq_none (by rw [bdW_len]; omega), if_neg hj]; rfl
  refine wp_blk ?_
  refine wp_range (σ := Unit) p.length (fun j _ => [I ((p.length : Int) - 1 - j)]) (fun j _ H' => Keeps H H' ∧ Nums H' H1.n (bdW p j)) () (by rw [hlen, wr_small (by omega) (by omega)]; simp) ⟨hk.trans (Keeps.push _ _), hn0⟩ ?_ ?_
  · rintro j _ H2 hj ⟨hk2, hnm⟩
    obtain ⟨k, hkk⟩ : ∃ k : Nat, (p.length : Int) - 1 - j = k := ⟨p.length - 1 - j, by omega⟩
    have hkp : k < p.length := by omega
    have hkj : p.length - j = k + 1 := by omega
    simp only [hkk]
    with_reducible repeat' (first | refine wp_finF ?_ | refine wp_uA ?_ | refine wp_uI ?_ | refine wp_uB ?_ | refine wp_uL ?_ | refine wp_uS ?_ | refine wp_uP ?_ | refine wp_uc ?_ | refine wp_nl ?_ | refine wp_asB ?_ | refine wp_asI ?_ | refine wp_asSl ?_ | refine wp_asT ?_ | refine wp_asA ?_ | refine wp_asS ?_ | refine wp_asP ?_ | refine wp_nN ?_ | refine wp_rN ?_ | refine wp_xN ?_ | refine wp_nB ?_ | refine wp_rB ?_ | refine wp_xB rfl ?_ | refine wp_xB' rfl ?_ | refine wp_bB ?_ | refine wp_rX ?_ | refine wp_xX ?_ | refine wp_rE ?_ | refine wp_xE ?_ | refine wp_rR ?_ | refine wp_xR ?_ | refine wp_r0 ?_ | refine wp_x0 ?_ | refine wp_rF ?_ | refine wp_rF0 ?_ | refine wp_rF2 ?_ | refine wp_rF3 ?_ | refine wp_rF4 ?_ | refine wp_condT ?_ | refine wp_condF ?_ | refine wp_condNT ?_ | refine wp_condNF ?_)
    refine wp_condD (fun _ => ?_) (fun hcc => by omega)
    refine wp_at (hs.keeps hk2) hkp fun _ _ => ?_
    with_reducible repeat' (first | refine wp_finF ?_ | refine wp_uA ?_ | refine wp_uI ?_ | refine wp_uB ?_ | refine wp_uL ?_ | refine wp_uS ?_ | refine wp_uP ?_ | refine wp_uc ?_ | refine wp_nl ?_ | refine wp_asB ?_ | refine wp_asI ?_ | refine wp_asSl ?_ | refine wp_asT ?_ | refine wp_asA ?_ | refine wp_asS ?_ | refine wp_asP ?_ | refine wp_nN ?_ | refine wp_rN ?_ | refine wp_xN ?_ | refine wp_nB ?_ | refine wp_rB ?_ | refine wp_xB rfl ?_ | refine wp_xB' rfl ?_ | refine wp_bB ?_ | refine wp_rX ?_ | refine wp_xX ?_ | refine wp_rE ?_ | refine wp_xE ?_ | refine wp_rR ?_ | refine wp_xR ?_ | refine wp_r0 ?_ | refine wp_x0 ?_ | refine wp_rF ?_ | refine wp_rF0 ?_ | refine wp_rF2 ?_ | refine wp_rF3 ?_ | refine wp_rF4 ?_ | refine wp_condT ?_ | refine wp_condF ?_ | refine wp_condNT ?_ | refine wp_condNF ?_)
    have hr : RInts H2 (numSl H1.n (p.length + 1)) (bdW p j) := by
      have := hnm.ints
      rw [bdW_len] at this
      exact this
    have hbnd : ∀ y ∈ bdW p j, 0 ≤ y ∧ y ≤ 1000 := by
      intro y hy
      obtain ⟨q, hq, rfl⟩ := List.mem_map.1 hy
      split
      · have h1 := Bd_nonneg hc q
        have h2 := Bd_small hc q
        omega
      · omega
    refine wp_bnd (bound_one_wp hr (x := p[k]) (by rw [bdW_len]; omega) (by omega) (fun ho => ?_) hbnd ?_)
    · have := hc.fwd k hkp ho
      rw [bdW_len]; omega
    have hval : oneB p[k] ((bdW p j).getD (k + 1) 0) ((bdW p j).getD (p[k]).a.toNat 0) = Bd p k := by
      rw [Bd_eq hc.fwd hkp]
      refine oneB_congr ?_ fun ho => ?_
      · rw [bdW_getD (by omega), if_pos (by omega)]
      · have := hc.fwd k hkp ho
        rw [bdW_getD (by omega), if_pos (by omega)]
    rw [hval]
    with_reducible repeat' (first | refine wp_finF ?_ | refine wp_uA ?_ | refine wp_uI ?_ | refine wp_uB ?_ | refine wp_uL ?_ | refine wp_uS ?_ | refine wp_uP ?_ | refine wp_uc ?_ | refine wp_nl ?_ | refine wp_asB ?_ | refine wp_asI ?_ | refine wp_asSl ?_ | refine wp_asT ?_ | refine wp_asA ?_ | refine wp_asS ?_ | refine wp_asP ?_ | refine wp_nN ?_ | refine wp_rN ?_ | refine wp_xN ?_ | refine wp_nB ?_ | refine wp_rB ?_ | refine wp_xB rfl ?_ | refine wp_xB' rfl ?_ | refine wp_bB ?_ | refine wp_rX ?_ | refine wp_xX ?_ | refine wp_rE ?_ | refine wp_xE ?_ | refine wp_rR ?_ | refine wp_xR ?_ | refine wp_r0 ?_ | refine wp_x0 ?_ | refine wp_rF ?_ | refine wp_rF0 ?_ | refine wp_rF2 ?_ | refine wp_rF3 ?_ | refine wp_rF4 ?_ | refine wp_condT ?_ | refine wp_condF ?_ | refine wp_condNT ?_ | refine wp_condNF ?_)
    refine wp_numset hnm (by rw [bdW_len]) (by omega) (by rw [bdW_len]; simp; omega) fun hn2 => ?_
    have hset : (bdW p j).set (k : Int).toNat (Bd p k) = bdW p (j + 1) := by
      refine set_eq_of (n := p.length + 1) bdW_len bdW_len (by simp; omega) ?_ ?_
      · rw [Int.toNat_natCast, bdW_get (by omega), if_pos (by omega)]
      · intro q hq hqk
        rw [Int.toNat_natCast] at hqk
        rw [bdW_get hq, bdW_get hq]
        have : (p.length - (j + 1) ≤ q) ↔ p.length - j ≤ q := by omega
        simp only [this]
    rw [hset] at hn2
    refine wp_nX ⟨(), ?_, hk2.set (by have := hk.n; omega) _, hn2⟩
    rw [wr_small (by omega) (by omega)]
    congr 2; omega
  · rintro _ H2 ⟨hk2, hnm⟩
    with_reducible repeat' (first | refine wp_finF ?_ | refine wp_uA ?_ | refine wp_uI ?_ | refine wp_uB ?_ | refine wp_uL ?_ | refine wp_uS ?_ | refine wp_uP ?_ | refine wp_uc ?_ | refine wp_nl ?_ | refine wp_asB ?_ | refine wp_asI ?_ | refine wp_asSl ?_ | refine wp_asT ?_ | refine wp_asA ?_ | refine wp_asS ?_ | refine wp_asP ?_ | refine wp_nN ?_ | refine wp_rN ?_ | refine wp_xN ?_ | refine wp_nB ?_ | refine wp_rB ?_ | refine wp_xB rfl ?_ | refine wp_xB' rfl ?_ | refine wp_bB ?_ | refine wp_rX ?_ | refine wp_xX ?_ | refine wp_rE ?_ | refine wp_xE ?_ | refine wp_rR ?_ | refine wp_xR ?_ | refine wp_r0 ?_ | refine wp_x0 ?_ | refine wp_rF ?_ | refine wp_rF0 ?_ | refine wp_rF2 ?_ | refine wp_rF3 ?_ | refine wp_rF4 ?_ | refine wp_condT ?_ | refine wp_condF ?_ | refine wp_condNT ?_ | refine wp_condNF ?_)
    refine wp_condD (fun hcc => by omega) (fun _ => ?_)
    with_reducible repeat' (first | refine wp_finF ?_ | refine wp_uA ?_ | refine wp_uI ?_ | refine wp_uB ?_ | refine wp_uL ?_ | refine wp_uS ?_ | refine wp_uP ?_ | refine wp_uc ?_ | refine wp_nl ?_ | refine wp_asB ?_ | refine wp_asI ?_ | refine wp_asSl ?_ | refine wp_asT ?_ | refine wp_asA ?_ | refine wp_asS ?_ | refine wp_asP ?_ | refine wp_nN ?_ | refine wp_rN ?_ | refine wp_xN ?_ | refine wp_nB ?_ | refine wp_rB ?_ | refine wp_xB rfl ?_ | refine wp_xB' rfl ?_ | refine wp_bB ?_ | refine wp_rX ?_ | refine wp_xX ?_ | refine wp_rE ?_ | refine wp_xE ?_ | refine wp_rR ?_ | refine wp_xR ?_ | refine wp_r0 ?_ | refine wp_x0 ?_ | refine wp_rF ?_ | refine wp_rF0 ?_ | refine wp_rF2 ?_ | refine wp_rF3 ?_ | refine wp_rF4 ?_ | refine wp_condT ?_ | refine wp_condF ?_ | refine wp_condNT ?_ | refine wp_condNF ?_)
    rw [bdW_all] at hnm
    exact h1 hc _ _ hk2 hk.n hnm
end Go.Proofs.Ytolchnaegifckaa.HS
namespace Go.Proofs.Ytolchnaegifckaa.HS
open Go

/-- the places next to an instruction. -/
def nextL (x : Ins) (i : Nat) : List Int :=
  if x.op = 0 ∨ x.op = 19 then [] else if x.op = 3 ∧ x.c = 2 then [x.a] else if (x.op = 3 ∨ x.op = 20) ∧ x.a > (i : Int) + 1 then [(i : Int) + 1, x.a] else [(i : Int) + 1]
/-- is a place next to another one? -/
def leads (x : Ins) (i : Nat) (to : Int) : Prop :=
  if x.op = 0 ∨ x.op = 19 then False else if x.op = 3 then to = x.a ∨ x.c < 2 ∧ to = (i : Int) + 1 else if x.op = 20 then to = x.a ∨ to = (i : Int) + 1 else to = (i : Int) + 1
theorem ref27_Leads_wp {D : HV → List HV → M HV} {H : Heap} {Q : HV → Heap → Prop} {s : Sl} {p : List Ins} (hs : RProg H s p) (hn : p.length ≤ 1000) {i : Nat} (hi : i < p.length) {to : Int}
    (h : ∀ z : Bool, (z = true ↔ leads p[i] i to) → Q (.bool z) H) : wp (f_ref27_Leads D [.sl s, I i, I to]) Q H := by
  unfold f_ref27_Leads
  with_reducible repeat' (first | refine wp_finF ?_ | refine wp_uA ?_ | refine wp_uI ?_ | refine wp_uB ?_ | refine wp_uL ?_ | refine wp_uS ?_ | refine wp_uP ?_ | refine wp_uc ?_ | refine wp_nl ?_ | refine wp_asB ?_ | refine wp_asI ?_ | refine wp_asSl ?_ | refine wp_asT ?_ | refine wp_asA ?_ | refine wp_asS ?_ | refine wp_asP ?_ | refine wp_nN ?_ | refine wp_rN ?_ | refine wp_xN ?_ | refine wp_nB ?_ | refine wp_rB ?_ | refine wp_xB rfl ?_ | refine wp_xB' rfl ?_ | refine wp_bB ?_ | refine wp_rX ?_ | refine wp_xX ?_ | refine wp_rE ?_ | refine wp_xE ?_ | refine wp_rR ?_ | refine wp_xR ?_ | refine wp_r0 ?_ | refine wp_x0 ?_ | refine wp_rF ?_ | refine wp_rF0 ?_ | refine wp_rF2 ?_ | refine wp_rF3 ?_ | refine wp_rF4 ?_ | refine wp_condT ?_ | refine wp_condF ?_ | refine wp_condNT ?_ | refine wp_condNF ?_)
  refine wp_at hs hi fun _ _ => ?_
  have h1 : wr ((i : Int) + 1) = (i : Int) + 1 := wr_small (by omega) (by omega)
  with_reducible repeat' (first | refine wp_finF ?_ | refine wp_uA ?_ | refine wp_uI ?_ | refine wp_uB ?_ | refine wp_uL ?_ | refine wp_uS ?_ | refine wp_uP ?_ | refine wp_uc ?_ | refine wp_nl ?_ | refine wp_asB ?_ | refine wp_asI ?_ | refine wp_asSl ?_ | refine wp_asT ?_ | refine wp_asA ?_ | refine wp_asS ?_ | refine wp_asP ?_ | refine wp_nN ?_ | refine wp_rN ?_ | refine wp_xN ?_ | refine wp_nB ?_ | refine wp_rB ?_ | refine wp_xB rfl ?_ | refine wp_xB' rfl ?_ | refine wp_bB ?_ | refine wp_rX ?_ | refine wp_xX ?_ | refine wp_rE ?_ | refine wp_xE ?_ | refine wp_rR ?_ | refine wp_xR ?_ | refine wp_r0 ?_ | refine wp_x0 ?_ | refine wp_rF ?_ | refine wp_rF0 ?_ | refine wp_rF2 ?_ | refine wp_rF3 ?_ | refine wp_rF4 ?_ | refine wp_condT ?_ | refine wp_condF ?_ | refine wp_condNT ?_ | refine wp_condNF ?_)
  rw [h1]
  with_reducible repeat' (first | refine wp_finF ?_ | refine wp_uA ?_ | refine wp_uI ?_ | refine wp_uB ?_ | refine wp_uL ?_ | refine wp_uS ?_ | refine wp_uP ?_ | refine wp_uc ?_ | refine wp_nl ?_ | refine wp_asB ?_ | refine wp_asI ?_ | refine wp_asSl ?_ | refine wp_asT ?_ | refine wp_asA ?_ | refine wp_asS ?_ | refine wp_asP ?_ | refine wp_jn ?_ | refine wp_nN ?_ | refine wp_rN ?_ | refine wp_xN ?_ | refine wp_nB ?_ | refine wp_rB ?_ | refine wp_xB rfl ?_ | refine wp_xB' rfl ?_ | refine wp_bB ?_ | refine wp_rX ?_ | refine wp_xX ?_ | refine wp_rE ?_ | refine wp_xE ?_ | refine wp_rR ?_ | refine wp_xR ?_ | refine wp_r0 ?_ | refine wp_x0 ?_ | refine wp_rF ?_ | refine wp_rF0 ?_ | refine wp_rF2 ?_ | refine wp_rF3 ?_ | refine wp_rF4 ?_ | refine wp_condT ?_ | refine wp_condF ?_ | refine wp_condNT ?_ | refine wp_condNF ?_ | refine wp_condD (fun _ => ?_) (fun _ => ?_) | refine wp_condE (fun _ => ?_) (fun _ => ?_) | refine wp_condNE (fun _ => ?_) (fun _ => ?_) | refine wp_condN (fun _ => ?_) (fun _ => ?_) | refine wp_cond (fun _ => ?_) (fun _ => ?_))
  all_goals
    refine h _ ?_
    clear h
    unfold leads
    grind
/-- the places that are named are those that are led to. -/
theorem mem_nextL {x : Ins} {i : Nat} {to : Int} (hc : x.op = 3 → 0 ≤ x.c ∧ x.c ≤ 2) (ha : x.op = 3 ∨ x.op = 20 → (i : Int) < x.a) : to ∈ nextL x i ↔ leads x i to := by
  unfold nextL leads
  by_cases h1 : x.op = 0 ∨ x.op = 19
  · simp [h1]
  rw [if_neg h1, if_neg h1]
  by_cases h3 : x.op = 3
  · have := hc h3
    have := ha (.inl h3)
    rw [if_pos h3]
    by_cases h2 : x.c = 2
    · simp [h3, h2]
    · rw [if_neg (fun hh => h2 hh.2)]
      by_cases h4 : x.a > (i : Int) + 1
      · rw [if_pos ⟨.inl h3, h4⟩]; simp; omega
      · rw [if_neg (fun hh => h4 hh.2)]; simp; omega
  · rw [if_neg h3, if_neg (fun hh => h3 hh.1)]
    by_cases h20 : x.op = 20
    · have := ha (.inr h20)
      rw [if_pos h20]
      by_cases h4 : x.a > (i : Int) + 1
      · rw [if_pos ⟨.inr h20, h4⟩]; simp; omega
      · rw [if_neg (fun hh => h4 hh.2)]; simp; omega
    · rw [if_neg h20, if_neg (fun hh => by omega)]; simp

end Go.Proofs.Ytolchnaegifckaa.HS
namespace Go.Proofs.Ytolchnaegifckaa.HS
open Go

/-- an array of numbers, kept whole. -/
def ArrF (n : Nat) (y : List HV) (f : Nat → Int) : Prop := y.length = n ∧ ∀ k, k < n → y[k]? = some (I (f k))
section
variable {n : Nat} {y : List HV} {f : Nat → Int} {α : Type} {Q : α → Heap → Prop} {H : Heap}
theorem ArrF.set (h : ArrF n y f) {e k : Nat} (he : e = k) (v : Int) : ArrF n (List.set y e (I v)) (fun q => if q = k then v else f q) := by
  subst he
  refine ⟨by simp [h.1], fun q hq => ?_⟩
  by_cases hqe : q = e
  · subst hqe; rw [List.getElem?_set_self (by rw [h.1]; exact hq)]; simp
  · rw [List.getElem?_set_ne (Ne.symm hqe), h.2 q hq]; simp [hqe]
theorem wp_gxAll (h : y.length = n) {g : List HV → M α} (hg : wp (g y) Q H) : wp (gxN y 0 n g) Q H := by
  have e1 : (y.drop 0).take n = y := by rw [List.drop_zero, ← h, List.take_length]
  unfold gxN
  refine wp_gd (by rw [h]; simp) ?_
  rw [e1]; exact hg
end

end Go.Proofs.Ytolchnaegifckaa.HS
namespace Go.Proofs.Ytolchnaegifckaa.HS
open Go

instance decThings (o a b c : Int) : Decidable (thingsP o a b c) := by unfold thingsP; infer_instance
instance decFields (o a b c : Int) : Decidable (fieldsP o a b c) := by unfold fieldsP; infer_instance
def rowb (p : List Ins) (i : Nat) (x : Ins) : Bool :=
  decide ((x.op = 4 → opn p i < 0) ∧ (x.op = 5 → 0 ≤ opn p i)) && decide (fieldsP x.op x.a x.b x.c) && decide ((x.op = 0 ∨ x.op = 4 → opn p i < 0) ∧ (4 < x.op → 0 ≤ opn p i)) &&
  decide (x.op = 3 ∨ x.op = 20 → (i : Int) < x.a ∧ x.a ≤ p.length ∧ (x.a = p.length → opn p i < 0) ∧ (x.a < p.length → opn p x.a.toNat = opn p i)) &&
  decide (¬ (x.op = 20 ∧ 3 ≤ waysR p i)) && decide (¬ (sureR p i = true ∧ (x.op = 14 ∨ x.op = 19 ∨ x.op = 20 ∨ x.op = 21)))
def canb (p : List Ins) : Bool := decide (p.length ≤ 48) && decide (opn p p.length < 0) && (List.range p.length).all fun i => match p[i]? with
  | none => true
  | some x => rowb p i x
theorem canB_of {p : List Ins} (hf : ∀ x ∈ p, IFit x) (h : canb p = true) : CanB p := by
  unfold canb at h
  simp only [Bool.and_eq_true, decide_eq_true_eq, List.all_eq_true, List.mem_range] at h
  obtain ⟨⟨h1, h2⟩, h3⟩ := h
  have row : ∀ i (hi : i < p.length), rowb p i p[i] = true := fun i hi => by
    have := h3 i hi
    rw [List.getElem?_eq_getElem hi] at this
    exact this
  refine canC_iff.1 ⟨h1, ⟨fun i hi => ?_, h2⟩, fun i hi => ?_⟩
  · have := row i hi
    unfold rowb at this
    simp only [Bool.and_eq_true, decide_eq_true_eq] at this
    exact this.1.1.1.1.1
  · have := row i hi
    unfold rowb at this
    simp only [Bool.and_eq_true, decide_eq_true_eq] at this
    obtain ⟨⟨⟨⟨⟨a, b⟩, c⟩, d⟩, e⟩, f⟩ := this
    exact ⟨(fits_iff _ (hf _ (List.getElem_mem hi))).2 b, c, d, e, f⟩
abbrev Yes : HV → Heap → Prop := fun v _ => v = .bool true

def pL : List Ins := [⟨4, 0, 0, 0⟩, ⟨20, 3, 0, 0⟩, ⟨19, 0, 0, 0⟩, ⟨5, 0, 0, 0⟩]
theorem pL_fit : ∀ x ∈ pL, IFit x := by
  intro x hx
  simp [pL] at hx
  rcases hx with rfl | rfl | rfl | rfl <;> exact ⟨by simp [loI, hiI], by simp [loI, hiI], by simp [loI, hiI], by simp [loI, hiI]⟩
theorem pL_can : CanB pL := canB_of pL_fit (by decide)
theorem law27_alive_wp {D : HV → List HV → M HV} {H : Heap} {Q : HV → Heap → Prop} (h : ∀ H', Keeps H H' → Q (.bool true) H') : wp (f_law27_alive D []) Q H := by
  unfold f_law27_alive
  with_reducible repeat' (first | refine wp_finF ?_ | refine wp_uA ?_ | refine wp_uI ?_ | refine wp_uB ?_ | refine wp_uL ?_ | refine wp_uS ?_ | refine wp_uP ?_ | refine wp_uc ?_ | refine wp_nl ?_ | refine wp_asB ?_ | refine wp_asI ?_ | refine wp_asSl ?_ | refine wp_asT ?_ | refine wp_asA ?_ | refine wp_asS ?_ | refine wp_asP ?_ | refine wp_nN ?_ | refine wp_rN ?_ | refine wp_xN ?_ | refine wp_nB ?_ | refine wp_rB ?_ | refine wp_xB rfl ?_ | refine wp_xB' rfl ?_ | refine wp_bB ?_ | refine wp_rX ?_ | refine wp_xX ?_ | refine wp_rE ?_ | refine wp_xE ?_ | refine wp_rR ?_ | refine wp_xR ?_ | refine wp_r0 ?_ | refine wp_x0 ?_ | refine wp_rF ?_ | refine wp_rF0 ?_ | refine wp_rF2 ?_ | refine wp_rF3 ?_ | refine wp_rF4 ?_ | refine wp_condT ?_ | refine wp_condF ?_ | refine wp_condNT ?_ | refine wp_condNF ?_)
  refine wp_nw ?_
  have hs : RProg (H.push (.cells [I 4, I 0, I 0, I 0, I 20, I 3, I 0, I 0, I 19, I 0, I 0, I 0, I 5, I 0, I 0, I 0] false)) ⟨some (H.n, 0), 4, 4, none⟩ pL := slr_push _ rfl rfl (by simp [pL]) (by simp [pL])
  refine wp_bnd (bound_Most_wp hs pL_fit (fun _ b H1 hk _ hnm => ?_) (fun hh => absurd pL_can hh))
  have ht : RInts H1 (numSl b (pL.length + 1)) [4, 3, 1, 1, 0] := hnm.rints
  have hk2 := (Keeps.push H _).trans hk
  have e0 : (0 : Int) = ((0 : Nat) : Int) := rfl
  with_reducible repeat' (first | refine wp_finF ?_ | refine wp_uA ?_ | refine wp_uI ?_ | refine wp_uB ?_ | refine wp_uL ?_ | refine wp_uS ?_ | refine wp_uP ?_ | refine wp_uc ?_ | refine wp_nl ?_ | refine wp_asB ?_ | refine wp_asI ?_ | refine wp_asSl ?_ | refine wp_asT ?_ | refine wp_asA ?_ | refine wp_asS ?_ | refine wp_asP ?_ | refine wp_jn ?_ | refine wp_nN ?_ | refine wp_rN ?_ | refine wp_xN ?_ | refine wp_nB ?_ | refine wp_rB ?_ | refine wp_xB rfl ?_ | refine wp_xB' rfl ?_ | refine wp_bB ?_ | refine wp_rX ?_ | refine wp_xX ?_ | refine wp_rE ?_ | refine wp_xE ?_ | refine wp_rR ?_ | refine wp_xR ?_ | refine wp_r0 ?_ | refine wp_x0 ?_ | refine wp_rF ?_ | refine wp_rF0 ?_ | refine wp_rF2 ?_ | refine wp_rF3 ?_ | refine wp_rF4 ?_ | refine wp_condT ?_ | refine wp_condF ?_ | refine wp_condNT ?_ | refine wp_condNF ?_ | refine wp_condD (fun _ => ?_) (fun _ => ?_) | refine wp_condE (fun _ => ?_) (fun _ => ?_) | refine wp_condNE (fun _ => ?_) (fun _ => ?_) | refine wp_condN (fun _ => ?_) (fun _ => ?_) | refine wp_cond (fun _ => ?_) (fun _ => ?_) | refine wp_atI' ht (i := 0) (by omega) (by simp) fun _ _ => ?_ | refine wp_atI' ht (i := 1) (by omega) (by simp) fun _ _ => ?_ | refine wp_atI' ht (i := 2) (by omega) (by simp) fun _ _ => ?_ | refine wp_atI' ht (i := 3) (by omega) (by simp) fun _ _ => ?_ | refine wp_atI' ht (i := 4) (by omega) (by simp) fun _ _ => ?_)
  all_goals first
    | exact h _ hk2
    | (exfalso; rename_i hne; exact hne rfl)

theorem nextL_range {p : List Ins} (hc : CanB p) {i : Nat} (hi : i < p.length) {k : Int} (hk : k ∈ nextL p[i] i) : (i : Int) < k ∧ k ≤ p.length := by
  have hf := hc.fwd i hi
  unfold nextL at hk
  split at hk
  · cases hk
  split at hk
  · rename_i h
    simp at hk; have := hf (.inl h.1); omega
  split at hk
  · rename_i h
    have := hf h.1
    simp at hk; omega
  · simp at hk; omega
theorem c_range {p : List Ins} (hc : CanB p) {i : Nat} (hi : i < p.length) (ho : (p[i]).op = 3) : 0 ≤ (p[i]).c ∧ (p[i]).c ≤ 2 := by
  obtain ⟨⟨l, hl, hin⟩, _⟩ := (hc.one i hi).fits
  rw [ho] at hl
  simp [lims] at hl
  subst hl
  simp [inside] at hin
  omega
end Go.Proofs.Ytolchnaegifckaa.HS
