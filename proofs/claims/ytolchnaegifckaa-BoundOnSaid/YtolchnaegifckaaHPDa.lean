/- Bounds of programs that can be. Conditions: none (plain lemmas). -/
import Derived.Test.YtolchnaegifckaaHPCa
namespace Go.Proofs.Ytolchnaegifckaa.HP
open Go

/-- jumps lead on, within the program. -/
def Fwd (p : List Ins) : Prop := ∀ i (hi : i < p.length), (p[i]).op = 3 ∨ (p[i]).op = 20 → (i : Int) < (p[i]).a ∧ (p[i]).a ≤ p.length
theorem CanB.fwd {p : List Ins} (h : CanB p) : Fwd p := fun i hi ho => ⟨((h.one i hi).goal ho).1, ((h.one i hi).goal ho).2.1⟩
def imax (a b : Int) : Int := if b > a then b else a
/-- a bound, by those of other places. -/
def oneB (x : Ins) (nx go : Int) : Int :=
  if x.op = 0 ∨ x.op = 5 ∨ x.op = 19 then 1 else if x.op = 20 then 1 + nx + go else if x.op = 3 then (if x.c = 2 then 1 + go else 1 + imax nx go) else 1 + nx
def bnd' (p : List Ins) : Nat → Nat → Int
  | 0, _ => 0
  | k + 1, i => match p[i]? with
    | none => 0
    | some x => oneB x (bnd' p k (i + 1)) (bnd' p k x.a.toNat)
def Bd (p : List Ins) (i : Nat) : Int := bnd' p (p.length - i) i
theorem oneB_congr {x : Ins} {a b c d : Int} (h1 : a = c) (h2 : x.op = 3 ∨ x.op = 20 → b = d) : oneB x a b = oneB x c d := by
  subst h1
  unfold oneB
  split
  · rfl
  split
  · rename_i h; rw [h2 (.inr h)]
  split
  · rename_i h; rw [h2 (.inl h)]
  · rfl
theorem bnd'_out {p : List Ins} {k i : Nat} (hi : p.length ≤ i) : bnd' p k i = 0 := by
  cases k with
  | zero => rfl
  | succ k => unfold bnd'; rw [List.getElem?_eq_none hi]
theorem bnd'_fuel {p : List Ins} (hf : Fwd p) : ∀ (k i : Nat), p.length - i ≤ k → bnd' p k i = bnd' p (p.length - i) i := by
  have key : ∀ (m k k' i : Nat), p.length - i ≤ m → p.length - i ≤ k → p.length - i ≤ k' → bnd' p k i = bnd' p k' i := by
    intro m
    induction m with
    | zero => intro k k' i h0 _ _; rw [bnd'_out (by omega), bnd'_out (by omega)]
    | succ m ih =>
      intro k k' i h0 h1 h2
      by_cases hi : i < p.length
      · cases k with
        | zero => omega
        | succ k =>
          cases k' with
          | zero => omega
          | succ k' =>
            unfold bnd'
            rw [List.getElem?_eq_getElem hi]
            refine oneB_congr (ih k k' (i + 1) (by omega) (by omega) (by omega)) fun ho => ?_
            have := hf i hi ho
            exact ih k k' _ (by omega) (by omega) (by omega)
      · rw [bnd'_out (by omega), bnd'_out (by omega)]
  intro k i h
  exact key _ k _ i (Nat.le_refl _) h (Nat.le_refl _)
theorem Bd_end {p : List Ins} {i : Nat} (h : p.length ≤ i) : Bd p i = 0 := bnd'_out h
theorem Bd_eq {p : List Ins} (hf : Fwd p) {i : Nat} (hi : i < p.length) : Bd p i = oneB p[i] (Bd p (i + 1)) (Bd p (p[i]).a.toNat) := by
  unfold Bd
  obtain ⟨k, hk⟩ : ∃ k, p.length - i = k + 1 := ⟨p.length - i - 1, by omega⟩
  rw [hk]
  conv => lhs; unfold bnd'
  rw [List.getElem?_eq_getElem hi]
  refine oneB_congr ?_ fun ho => ?_
  · rw [bnd'_fuel hf k (i + 1) (by omega)]
  · have := hf i hi ho
    exact bnd'_fuel hf k _ (by omega)

theorem pow_le {a b : Nat} (h : a ≤ b) : (2 : Int) ^ a ≤ 2 ^ b := by
  have := Nat.pow_le_pow_right (n := 2) (by omega) h
  exact_mod_cast this
theorem opn_le_end {p : List Ins} (hs : Shaped p) {i : Nat} (hi : i < p.length) : opn p i = Blk p i := by
  by_cases h4 : (p[i]).op = 4
  · have h1 := (hs.1 i hi).1 h4
    have h2 := opn_ge p i
    rw [Blk_eq hi, if_pos h4]; omega
  · rw [Blk_eq hi, if_neg h4]
/-- within a block the ways that were told grow. -/
theorem ways_mono {p : List Ins} {at_ : Int} (h0 : 0 ≤ at_) {i : Nat} (hi : at_ < i) : ∀ {k : Nat}, i ≤ k → k ≤ p.length → opn p k = at_ → opn p i = at_ ∧ waysR p i ≤ waysR p k := by
  intro k hk
  induction k with
  | zero => intro _ _; omega
  | succ k ih =>
    intro hkp ho
    rcases Nat.lt_or_ge k i with h | h
    · have : i = k + 1 := by omega
      subst this; exact ⟨ho, Nat.le_refl _⟩
    · have hk' : k < p.length := by omega
      have h1 := opn_succ hk'
      have h2 := waysR_succ hk'
      rw [ho] at h1
      split at h1
      · omega
      split at h1
      · omega
      · rename_i h4 h5
        obtain ⟨a, b⟩ := ih (by omega) (by omega) h1.symm
        refine ⟨a, ?_⟩
        rw [h2, if_neg h4]
        split <;> omega
theorem waysR_le3 {p : List Ins} (h : CanC p) : ∀ i, i ≤ p.length → waysR p i ≤ 3 := by
  intro i
  induction i with
  | zero => intro _; simp [waysR]
  | succ i ih =>
    intro hi
    have h1 := ih (by omega)
    have h2 := waysR_succ (p := p) (i := i) (by omega)
    have h3 := (h.good i (by omega)).2.2.2.1
    rw [h2]
    split
    · omega
    split
    · rename_i h20
      have : ¬ 3 ≤ waysR p i := fun hh => h3 ⟨h20, hh⟩
      omega
    · omega

def wgt (p : List Ins) (i : Nat) : Int := if 0 ≤ opn p i then 2 ^ (3 - waysR p i) else 8
theorem wgt_pos (p : List Ins) (i : Nat) : 1 ≤ wgt p i ∧ wgt p i ≤ 8 := by
  unfold wgt
  split
  · have h1 := pow_le (a := 0) (b := 3 - waysR p i) (by omega)
    have h2 := pow_le (a := 3 - waysR p i) (b := 3) (by omega)
    simp at h1 h2; omega
  · omega
theorem Bd_bounds {p : List Ins} (hc : CanB p) : ∀ (m i : Nat), p.length - i ≤ m → 0 ≤ Bd p i ∧ (i < p.length → 1 ≤ Bd p i) ∧ (i ≤ p.length → Bd p i ≤ wgt p i * ((p.length : Int) - i)) := by
  have hcc := canC_iff.2 hc
  have hf := hc.fwd
  intro m
  induction m with
  | zero =>
    intro i h
    have h1 := Bd_end (p := p) (i := i) (by omega)
    refine ⟨by omega, fun _ => by omega, fun h2 => ?_⟩
    have : (p.length : Int) - i = 0 := by omega
    rw [h1, this]; omega
  | succ m ih =>
    intro i h
    by_cases hi : i < p.length
    · have he := Bd_eq hf hi
      obtain ⟨n0, _, n2⟩ := ih (i + 1) (by omega)
      have n2 := n2 (by omega)
      have hg := hc.one i hi
      have hopn := opn_le_end hc.shaped hi
      have hop := opn_succ hi
      have hwy := waysR_succ hi
      have hlt := opn_lt p i
      have hw3 := waysR_le3 hcc i (by omega)
      have hw31 := waysR_le3 hcc (i + 1) (by omega)
      obtain ⟨w1, w2⟩ := wgt_pos p i
      obtain ⟨w3, w4⟩ := wgt_pos p (i + 1)
      have tgt : (p[i]).op = 3 ∨ (p[i]).op = 20 → 0 ≤ Bd p (p[i]).a.toNat ∧ Bd p (p[i]).a.toNat ≤ wgt p (p[i]).a.toNat * ((p.length : Int) - (p[i]).a) ∧ (i : Int) < (p[i]).a ∧ (p[i]).a ≤ p.length := by
        intro ho
        have hfw := hf i hi ho
        obtain ⟨t0, _, t2⟩ := ih (p[i]).a.toNat (by omega)
        have t2 := t2 (by omega)
        rw [show (((p[i]).a.toNat : Nat) : Int) = (p[i]).a from by omega] at t2
        exact ⟨t0, t2, hfw⟩
      have hpos : 0 ≤ Bd p i ∧ 1 ≤ Bd p i := by
        rw [he]
        unfold oneB imax
        split
        · omega
        split
        · rename_i h20
          have := (tgt (.inr h20)).1; omega
        split
        · rename_i h3
          have := (tgt (.inl h3)).1
          split
          · omega
          · split <;> omega
        · omega
      refine ⟨hpos.1, fun _ => hpos.2, fun _ => ?_⟩
      have nxle : (p[i]).op ≠ 5 → Bd p (i + 1) ≤ wgt p i * ((p.length : Int) - i - 1) := by
        intro h5
        have hw : wgt p (i + 1) ≤ wgt p i := by
          by_cases h4 : (p[i]).op = 4
          · have hb := hg.out (.inr h4)
            have : wgt p i = 8 := by unfold wgt; rw [if_neg (by omega)]
            omega
          · unfold wgt
            rw [hop, if_neg h4, if_neg h5, hwy, if_neg h4]
            split
            · refine pow_le ?_
              split <;> omega
            · omega
        have hnn : 0 ≤ (p.length : Int) - i - 1 := by omega
        have := Int.mul_le_mul_of_nonneg_right hw hnn
        rw [show ((i + 1 : Nat) : Int) = (i : Int) + 1 from rfl] at n2
        rw [show (p.length : Int) - ((i : Int) + 1) = (p.length : Int) - i - 1 from by omega] at n2
        omega
      have tgle : (p[i]).op = 3 ∨ (p[i]).op = 20 → Bd p (p[i]).a.toNat ≤ wgt p i * ((p.length : Int) - i - 1) := by
        intro ho
        obtain ⟨t0, t1, t2, t3⟩ := tgt ho
        obtain ⟨_, _, ge, gl⟩ := hg.goal ho
        have hw : (p[i]).a < p.length → wgt p (p[i]).a.toNat ≤ wgt p i := by
          intro ha
          have hb := gl ha
          rw [← opn_le_end hc.shaped (by omega), ← hopn] at hb
          unfold wgt
          rw [hb]
          split
          · rename_i hge
            have := (ways_mono hge (i := i) (by omega) (k := (p[i]).a.toNat) (by omega) (by omega) hb).2
            exact pow_le (by omega)
          · omega
        by_cases ha : (p[i]).a < p.length
        · have h1 := Int.mul_le_mul_of_nonneg_right (hw ha) (show 0 ≤ (p.length : Int) - (p[i]).a from by omega)
          have h2 := Int.mul_le_mul_of_nonneg_left (show (p.length : Int) - (p[i]).a ≤ (p.length : Int) - i - 1 from by omega) (show 0 ≤ wgt p i from by omega)
          omega
        · have : (p.length : Int) - (p[i]).a = 0 := by omega
          rw [this] at t1
          have h2 := Int.mul_le_mul_of_nonneg_left (show (0 : Int) ≤ (p.length : Int) - i - 1 from by omega) (show 0 ≤ wgt p i from by omega)
          omega
      have hexp : wgt p i * ((p.length : Int) - i) = wgt p i * ((p.length : Int) - i - 1) + wgt p i := by
        obtain ⟨d, hd⟩ : ∃ d : Int, (p.length : Int) - i - 1 = d := ⟨_, rfl⟩
        rw [hd, show (p.length : Int) - i = d + 1 from by omega, Int.mul_add, Int.mul_one]
      have hnn : 0 ≤ wgt p i * ((p.length : Int) - i - 1) := Int.mul_nonneg (by omega) (by omega)
      rw [he, hexp]
      unfold oneB imax
      split
      · omega
      split
      · rename_i h20
        -- an Else: both ways have half the weight
        obtain ⟨t0, t1, t2, t3⟩ := tgt (.inr h20)
        obtain ⟨_, _, ge, gl⟩ := hg.goal (.inr h20)
        have hin := hg.ins (by omega)
        rw [← hopn] at hin
        have hnw : ¬ 3 ≤ waysR p i := fun hh => (hcc.good i hi).2.2.2.1 ⟨h20, hh⟩
        have hwi : wgt p i = 2 * 2 ^ (2 - waysR p i) := by
          unfold wgt
          rw [if_pos hin, show 3 - waysR p i = (2 - waysR p i) + 1 from by omega, Int.pow_succ, Int.mul_comm]
        have hw1 : wgt p (i + 1) = 2 ^ (2 - waysR p i) := by
          unfold wgt
          have h4 : ¬ (p[i]).op = 4 := by omega
          have h5 : ¬ (p[i]).op = 5 := by omega
          rw [hop, if_neg h4, if_neg h5, if_pos hin, hwy, if_neg h4, if_pos h20]
          congr 1
          omega
        have ha : (p[i]).a < p.length := by
          rcases Int.lt_or_eq_of_le t3 with hh | hh
          · exact hh
          · have := ge hh; rw [← hopn] at this; omega
        have hb := gl ha
        rw [← opn_le_end hc.shaped (by omega), ← hopn] at hb
        have hmono := (ways_mono hin (i := i + 1) (by omega) (k := (p[i]).a.toNat) (by omega) (by omega) hb).2
        rw [hwy, if_neg (by omega), if_pos h20] at hmono
        have hwa : wgt p (p[i]).a.toNat ≤ 2 ^ (2 - waysR p i) := by
          unfold wgt
          rw [hb, if_pos hin]
          exact pow_le (by omega)
        have hp1 : (1 : Int) ≤ 2 ^ (2 - waysR p i) := by
          have := pow_le (a := 0) (b := 2 - waysR p i) (by omega); simpa using this
        rw [hw1, show ((i + 1 : Nat) : Int) = (i : Int) + 1 from rfl, show (p.length : Int) - ((i : Int) + 1) = (p.length : Int) - i - 1 from by omega] at n2
        have h1 := Int.mul_le_mul_of_nonneg_right hwa (show 0 ≤ (p.length : Int) - (p[i]).a from by omega)
        have h2 := Int.mul_le_mul_of_nonneg_left (show (p.length : Int) - (p[i]).a ≤ (p.length : Int) - i - 1 from by omega) (show (0 : Int) ≤ 2 ^ (2 - waysR p i) from by omega)
        rw [hwi, Int.mul_assoc]
        omega
      split
      · rename_i h3
        have t := tgle (.inl h3)
        have n := nxle (by omega)
        split
        · omega
        · split <;> omega
      · rename_i h1 h2 h3
        have n := nxle (by intro h5; exact h1 (.inr (.inl h5)))
        omega
    · have h1 := Bd_end (p := p) (i := i) (by omega)
      refine ⟨by omega, fun hh => absurd hh hi, fun h2 => ?_⟩
      have : (p.length : Int) - i = 0 := by omega
      rw [h1, this]; omega
theorem Bd_nonneg {p : List Ins} (hc : CanB p) (i : Nat) : 0 ≤ Bd p i := (Bd_bounds hc _ i (Nat.le_refl _)).1
theorem Bd_pos {p : List Ins} (hc : CanB p) {i : Nat} (hi : i < p.length) : 1 ≤ Bd p i := (Bd_bounds hc _ i (Nat.le_refl _)).2.1 hi
theorem Bd_le {p : List Ins} (hc : CanB p) {i : Nat} (hi : i ≤ p.length) : Bd p i ≤ 8 * ((p.length : Int) - i) := by
  have h1 := (Bd_bounds hc _ i (Nat.le_refl _)).2.2 hi
  have h2 := (wgt_pos p i).2
  have := Int.mul_le_mul_of_nonneg_right h2 (show 0 ≤ (p.length : Int) - i from by omega)
  omega
theorem Bd_small {p : List Ins} (hc : CanB p) (i : Nat) : Bd p i ≤ 400 := by
  rcases Nat.lt_or_ge p.length i with h | h
  · rw [Bd_end (by omega)]; omega
  · have := Bd_le hc h
    have := hc.len
    omega
end Go.Proofs.Ytolchnaegifckaa.HP
