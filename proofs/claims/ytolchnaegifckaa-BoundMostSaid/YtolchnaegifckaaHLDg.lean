/- A block that is taken out of a program. Conditions: none (plain lemmas). -/
import Derived.Test.YtolchnaegifckaaHLDa
import Derived.Test.YtolchnaegifckaaHLCd
namespace Go.Proofs.Ytolchnaegifckaa.HL
open Go

/-- an instruction, its goal moved. -/
def shiftI (x : Ins) (at_ : Int) : Ins := if x.op = 3 ∨ x.op = 20 then { x with a := x.a - at_ } else x
theorem shiftI_op (x : Ins) (a : Int) : (shiftI x a).op = x.op := by unfold shiftI; split <;> rfl
theorem shiftI_c (x : Ins) (a : Int) : (shiftI x a).c = x.c := by unfold shiftI; split <;> rfl
theorem shiftI_b (x : Ins) (a : Int) : (shiftI x a).b = x.b := by unfold shiftI; split <;> rfl
/-- from a place up to another one, goals moved. -/
def cutB (p : List Ins) (at_ m : Nat) : List Ins := ((p.drop at_).take m).map fun x => shiftI x at_
theorem cutB_len {p : List Ins} {at_ m : Nat} (h : at_ + m ≤ p.length) : (cutB p at_ m).length = m := by simp [cutB]; omega
theorem cutB_get {p : List Ins} {at_ m i : Nat} (h : at_ + m ≤ p.length) (hi : i < (cutB p at_ m).length) : (cutB p at_ m)[i] = shiftI (p[at_ + i]'(by rw [cutB_len h] at hi; omega)) at_ := by
  simp [cutB]
theorem cutB_fit {p : List Ins} (hc : CanB p) (hf : ∀ x ∈ p, IFit x) {at_ m : Nat} (h : at_ + m ≤ p.length) : ∀ x ∈ cutB p at_ m, IFit x := by
  intro x hx
  obtain ⟨i, hi, rfl⟩ := List.getElem_of_mem hx
  rw [cutB_get h hi]
  rw [cutB_len h] at hi
  have hip : at_ + i < p.length := by omega
  have h1 := hf _ (List.getElem_mem hip)
  have h2 := hc.fwd _ hip
  have h48 := hc.len
  refine ⟨by rw [shiftI_op]; exact h1.o, ?_, by rw [shiftI_b]; exact h1.b, by rw [shiftI_c]; exact h1.c⟩
  unfold shiftI
  split
  · rename_i ho
    have := h2 ho
    simp only [loI, hiI]; omega
  · exact h1.a

/-- the first End behind a Begin. -/
structure EndAt (p : List Ins) (at_ e : Nat) : Prop where
  lt : at_ < e
  le : e < p.length
  b : ∀ (h : at_ < p.length), (p[at_]).op = 4
  fin : ∀ (h : e < p.length), (p[e]).op = 5
  no : ∀ k (hk : k < p.length), at_ < k → k < e → (p[k]).op ≠ 5
theorem opn_in {p : List Ins} (hs : Shaped p) {at_ : Nat} (hb : ∀ (h : at_ < p.length), (p[at_]).op = 4) {e : Nat} (he : e < p.length) (hno : ∀ k (hk : k < p.length), at_ < k → k < e → (p[k]).op ≠ 5) :
    ∀ k, at_ < k → k ≤ e → opn p k = at_ := by
  intro k
  induction k with
  | zero => intro h; omega
  | succ k ih =>
    intro h1 h2
    have hk : k < p.length := by omega
    rw [opn_succ hk]
    rcases Nat.lt_or_ge at_ k with h3 | h3
    · have hi := ih h3 (by omega)
      have h4 : (p[k]).op ≠ 4 := fun h => by have := (hs.1 k hk).1 h; omega
      rw [if_neg h4, if_neg (hno k hk h3 (by omega)), hi]
    · have : k = at_ := by omega
      subst this
      rw [if_pos (hb hk)]
theorem exists_end {p : List Ins} (hs : Shaped p) {at_ : Nat} (ha : at_ < p.length) (hb : (p[at_]).op = 4) : ∃ e, EndAt p at_ e := by
  have hex : ∃ e, at_ < e ∧ ∃ h : e < p.length, (p[e]).op = 5 := by
    apply Classical.byContradiction
    intro hn
    have key : ∀ k, at_ < k → k ≤ p.length → 0 ≤ opn p k := by
      intro k
      induction k with
      | zero => intro h; omega
      | succ k ih =>
        intro h1 h2
        have hk : k < p.length := by omega
        rw [opn_succ hk]
        rcases Nat.lt_or_ge at_ k with h3 | h3
        · have hi := ih h3 (by omega)
          split
          · omega
          · rw [if_neg (fun h5 => hn ⟨k, h3, hk, h5⟩)]; exact hi
        · have : k = at_ := by omega
          subst this
          rw [if_pos hb]; omega
    have := key p.length ha (Nat.le_refl _)
    have := hs.2
    omega
  obtain ⟨e, he⟩ := hex
  induction e using Nat.strongRecOn with
  | ind e ih =>
    rcases Classical.em (∃ k, k < e ∧ at_ < k ∧ ∃ h : k < p.length, (p[k]).op = 5) with ⟨k, h1, h2⟩ | hno
    · exact ih k h1 h2
    · obtain ⟨h1, h2, h3⟩ := he
      exact ⟨e, h1, h2, fun _ => hb, fun _ => h3, fun k hk h4 h5 h6 => hno ⟨k, h5, h4, hk, h6⟩⟩
/-- behind the End the block is not open any more. -/
theorem opn_past {p : List Ins} {at_ e : Nat} (h : EndAt p at_ e) : ∀ k, e < k → k ≤ p.length → opn p k ≠ at_ := by
  intro k
  induction k with
  | zero => intro h; omega
  | succ k ih =>
    intro h1 h2
    have hk : k < p.length := by omega
    have := h.lt
    rw [opn_succ hk]
    rcases Nat.lt_or_ge e k with h3 | h3
    · have hi := ih h3 (by omega)
      split
      · omega
      split
      · omega
      · exact hi
    · have : k = e := by omega
      subst this
      rw [if_neg (by rw [h.fin hk]; omega), if_pos (h.fin hk)]; omega

theorem cut_rows {p : List Ins} (hc : CanB p) {at_ e : Nat} (h : EndAt p at_ e) : ∀ i, i ≤ e - at_ + 1 →
    opn (cutB p at_ (e - at_ + 1)) i = (if i = 0 then -1 else if i ≤ e - at_ then 0 else -1) ∧
    (1 ≤ i → i ≤ e - at_ → sureR (cutB p at_ (e - at_ + 1)) i = sureR p (at_ + i) ∧ waysR (cutB p at_ (e - at_ + 1)) i = waysR p (at_ + i)) := by
  have hlt := h.lt
  have hle := h.le
  have hm : at_ + (e - at_ + 1) ≤ p.length := by omega
  have hlen := cutB_len hm
  intro i
  induction i with
  | zero => intro _; exact ⟨by simp [opn], fun h => by omega⟩
  | succ i ih =>
    intro hi
    obtain ⟨i1, i2⟩ := ih (by omega)
    have hil : i < (cutB p at_ (e - at_ + 1)).length := by rw [hlen]; omega
    have hip : at_ + i < p.length := by omega
    have hop : ((cutB p at_ (e - at_ + 1))[i]).op = (p[at_ + i]).op := by rw [cutB_get hm hil, shiftI_op]
    have o1 := opn_succ hil
    have s1 := sureR_succ hil
    have w1 := waysR_succ hil
    have s2 := sureR_succ hip
    have w2 := waysR_succ hip
    rw [hop] at o1 s1 w1
    by_cases h0 : i = 0
    · subst h0
      have hb := h.b (by omega)
      simp only [Nat.add_zero] at o1 s1 w1 s2 w2
      rw [if_pos hb] at o1 s1 w1 s2 w2
      refine ⟨by rw [o1]; simp; omega, fun _ _ => ⟨by rw [s1, s2], by rw [w1, w2]⟩⟩
    · have hoi := opn_in hc.shaped h.b h.le h.no (at_ + i) (by omega) (by omega)
      have h4 : (p[at_ + i]).op ≠ 4 := fun h => by have := (hc.shaped.1 _ hip).1 h; omega
      have hii := i2 (by omega) (by omega)
      rw [if_neg h4] at o1 s1 w1 s2 w2
      rw [if_neg h0, if_pos (by omega)] at i1
      by_cases he : i = e - at_
      · have h5 : (p[at_ + i]).op = 5 := by
          have := h.fin h.le
          simp only [show at_ + i = e from by omega]; exact this
        rw [if_pos h5] at o1
        refine ⟨by rw [o1, if_neg (by omega), if_neg (by omega)], fun _ h => by omega⟩
      · have h5 : (p[at_ + i]).op ≠ 5 := h.no _ hip (by omega) (by omega)
        rw [if_neg h5] at o1
        refine ⟨by rw [o1, i1, if_neg (by omega), if_pos (by omega)], fun _ _ => ⟨?_, ?_⟩⟩
        · rw [s1, hii.1, show at_ + (i + 1) = at_ + i + 1 from rfl, s2]
        · rw [w1, hii.2, show at_ + (i + 1) = at_ + i + 1 from rfl, w2]
theorem goal_in {p : List Ins} (hc : CanB p) {at_ e : Nat} (h : EndAt p at_ e) {k : Nat} (hk : k < p.length) (h1 : at_ < k) (h2 : k ≤ e) (ho : (p[k]).op = 3 ∨ (p[k]).op = 20) : (k : Int) < (p[k]).a ∧ (p[k]).a ≤ e := by
  obtain ⟨g1, g2, g3, g4⟩ := (hc.one k hk).goal ho
  have hopk := opn_in hc.shaped h.b h.le h.no k h1 h2
  have hB := opn_le_end hc.shaped hk
  rw [← hB, hopk] at g3 g4
  have h3 : (p[k]).a < p.length := by
    rcases Int.lt_or_eq_of_le g2 with hh | hh
    · exact hh
    · have := g3 hh; omega
  have h4 := g4 h3
  rw [← opn_le_end hc.shaped (by omega)] at h4
  refine ⟨g1, ?_⟩
  apply Classical.byContradiction
  intro hn
  exact opn_past h (p[k]).a.toNat (by omega) (by omega) h4
theorem cut_can {p : List Ins} (hc : CanB p) (hf : ∀ x ∈ p, IFit x) {at_ e : Nat} (h : EndAt p at_ e) : CanB (cutB p at_ (e - at_ + 1)) := by
  have hlt := h.lt
  have hle := h.le
  have hm : at_ + (e - at_ + 1) ≤ p.length := by omega
  have hlen := cutB_len hm
  have hfq := cutB_fit hc hf hm
  have hcc := canC_iff.2 hc
  have h48 := hc.len
  have rows := cut_rows hc h
  have get := fun {i : Nat} (hi : i < (cutB p at_ (e - at_ + 1)).length) => cutB_get hm hi
  have ops : ∀ i (hi : i < (cutB p at_ (e - at_ + 1)).length), ((cutB p at_ (e - at_ + 1))[i]).op = (p[at_ + i]'(by omega)).op := fun i hi => by rw [get hi, shiftI_op]
  refine canC_iff.1 ⟨by rw [hlen]; omega, ⟨fun i hi => ?_, ?_⟩, fun i hi => ?_⟩
  · have hi' := hi
    rw [hlen] at hi'
    have r := (rows i (by omega)).1
    have hip : at_ + i < p.length := by omega
    rw [ops i hi, r]
    by_cases h0 : i = 0
    · subst h0
      have := h.b (by omega)
      simp only [Nat.add_zero, this]
      simp
    · rw [if_neg h0, if_pos (by omega)]
      refine ⟨fun h4 => ?_, fun _ => by omega⟩
      have h1 := (hc.shaped.1 _ hip).1 h4
      have h2 := opn_in hc.shaped h.b h.le h.no (at_ + i) (by omega) (by omega)
      omega
  · rw [hlen, (rows (e - at_ + 1) (Nat.le_refl _)).1, if_neg (by omega), if_neg (by omega)]; omega
  · have hi' := hi
    rw [hlen] at hi'
    have hip : at_ + i < p.length := by omega
    obtain ⟨g1, ⟨g2, g3⟩, g4, g5, g6⟩ := hcc.good (at_ + i) hip
    obtain ⟨r1, r2⟩ := rows i (by omega)
    have hx := get hi
    have hxop := ops i hi
    have fits : Fits (cutB p at_ (e - at_ + 1))[i] := by
      rw [fits_iff _ (hfq _ (List.getElem_mem hi))]
      have h1 := (fits_iff _ (hf _ (List.getElem_mem hip))).1 g1
      rw [hx]
      unfold shiftI
      split
      · rename_i ho
        rcases ho with ho | ho <;> (simp only [ho] at h1 ⊢; simp [fieldsP] at h1 ⊢; exact h1)
      · exact h1
    by_cases h0 : i = 0
    · subst h0
      have hb := h.b (by omega)
      simp only [Nat.add_zero] at hxop
      rw [hb] at hxop
      unfold GoodI
      rw [hxop, r1]
      refine ⟨fits, ⟨fun _ => by simp, fun h => by omega⟩, fun h => by omega, fun h => by omega, fun h => by omega⟩
    · have hoi := opn_in hc.shaped h.b h.le h.no (at_ + i) (by omega) (by omega)
      obtain ⟨s1, w1⟩ := r2 (by omega) (by omega)
      rw [if_neg h0, if_pos (by omega)] at r1
      unfold GoodI
      rw [hxop, r1, s1, w1]
      refine ⟨fits, ⟨fun ho => by have := g2 ho; omega, fun _ => by omega⟩, fun ho => ?_, g5, g6⟩
      have gi := goal_in hc h hip (by omega) (by omega) ho
      have ea : ((cutB p at_ (e - at_ + 1))[i]).a = (p[at_ + i]).a - at_ := by
        rw [hx]; unfold shiftI; rw [if_pos ho]
      rw [ea, hlen]
      refine ⟨by omega, by omega, fun h => by omega, fun h => ?_⟩
      rw [(rows ((p[at_ + i]).a - at_).toNat (by omega)).1, if_neg (by omega), if_pos (by omega)]
/-- the bounds stay. -/
theorem cut_bd {p : List Ins} (hc : CanB p) (hf : ∀ x ∈ p, IFit x) {at_ e : Nat} (h : EndAt p at_ e) : ∀ (d i : Nat), e - at_ + 1 - i ≤ d → i ≤ e - at_ → Bd (cutB p at_ (e - at_ + 1)) i = Bd p (at_ + i) := by
  have hlt := h.lt
  have hle := h.le
  have hm : at_ + (e - at_ + 1) ≤ p.length := by omega
  have hlen := cutB_len hm
  have hq := cut_can hc hf h
  intro d
  induction d with
  | zero => intro i h1 h2; omega
  | succ d ih =>
    intro i h1 h2
    have hil : i < (cutB p at_ (e - at_ + 1)).length := by rw [hlen]; omega
    have hip : at_ + i < p.length := by omega
    rw [Bd_eq hq.fwd hil, Bd_eq hc.fwd hip, cutB_get hm hil]
    by_cases he : i = e - at_
    · have h5 : (p[at_ + i]).op = 5 := by
        have := h.fin h.le
        simp only [show at_ + i = e from by omega]; exact this
      unfold oneB
      rw [shiftI_op, h5]
      simp
    · have nx := ih (i + 1) (by omega) (by omega)
      rw [show at_ + i + 1 = at_ + (i + 1) from rfl, ← nx]
      by_cases ho : (p[at_ + i]).op = 3 ∨ (p[at_ + i]).op = 20
      · have h0 : i ≠ 0 := fun h0 => by
          subst h0
          have := h.b (by omega)
          simp only [Nat.add_zero] at ho
          omega
        have gi := goal_in hc h hip (by omega) (by omega) ho
        have ea : (shiftI p[at_ + i] at_).a = (p[at_ + i]).a - at_ := by unfold shiftI; rw [if_pos ho]
        have go := ih ((p[at_ + i]).a - at_).toNat (by omega) (by omega)
        rw [ea, go, show at_ + ((p[at_ + i]).a - at_).toNat = (p[at_ + i]).a.toNat from by omega]
        unfold oneB
        rw [shiftI_op, shiftI_c]
      · have ea : shiftI p[at_ + i] at_ = p[at_ + i] := by unfold shiftI; rw [if_neg ho]
        rw [ea]
        exact oneB_congr rfl fun h => absurd h ho
end Go.Proofs.Ytolchnaegifckaa.HL
