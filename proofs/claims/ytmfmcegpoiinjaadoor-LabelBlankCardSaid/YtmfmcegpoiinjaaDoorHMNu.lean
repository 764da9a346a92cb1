/- Numerals: what strconv's contracts say of them, and the document's own reading. Conditions: none (lemmas). -/
import Derived.Lib.ItoaNum
import Derived.Lib.AtoiAll
namespace Go.Proofs.YtmfmcegpoiinjaaDoor.HM
open Go Go.Lib

abbrev Bs := List UInt8
def Dig (c : UInt8) : Prop := 48 ≤ c.toNat ∧ c.toNat ≤ 57
instance (c : UInt8) : Decidable (Dig c) := by unfold Dig; infer_instance
/-- what digits spell behind a number. -/
def valA (acc : Nat) (l : Bs) : Nat := l.foldl (fun a c => a * 10 + (c.toNat - 48)) acc
theorem valA_cons (acc : Nat) (c : UInt8) (l : Bs) : valA acc (c :: l) = valA (acc * 10 + (c.toNat - 48)) l := by simp only [valA, List.foldl_cons]
theorem valA_app (acc : Nat) (l m : List UInt8) : valA acc (l ++ m) = valA (valA acc l) m := by unfold valA; rw [List.foldl_append]
theorem valA_ge : ∀ (l : Bs) (acc : Nat), acc ≤ valA acc l
  | [], acc => Nat.le_refl _
  | c :: l, acc => by rw [valA_cons]; exact Nat.le_trans (by omega) (valA_ge l _)
theorem valA_ge10 (c : UInt8) (l : Bs) (acc : Nat) : acc * 10 ≤ valA acc (c :: l) := by rw [valA_cons]; exact Nat.le_trans (by omega) (valA_ge l _)
theorem parse_dig : ∀ (l : Bs) (acc : Nat), acc < 18446744073709551616 → (∀ c ∈ l, Dig c) → parseUint10 acc l = if valA acc l < 18446744073709551616 then .ok (valA acc l) else .range
  | [], acc, ha, _ => by simp [parseUint10, valA, ha]
  | c :: l, acc, ha, hd => by
    have hc := hd c List.mem_cons_self
    simp only [parseUint10]
    rw [if_pos (show 48 ≤ c.toNat ∧ c.toNat ≤ 57 from hc)]
    split
    · rename_i h
      rw [if_neg]
      have := valA_ge10 c l acc
      omega
    · split
      · rename_i h1 h
        rw [if_neg]
        rw [valA_cons]
        have := valA_ge l (acc * 10 + (c.toNat - 48))
        omega
      · rw [parse_dig l _ (by omega) (fun x hx => hd x (List.mem_cons_of_mem _ hx)), valA_cons]
theorem dec_small {u : Nat} (h : u < 10) : decDigits u = [UInt8.ofNat (48 + u)] := by rw [decDigits, dif_pos h]
theorem dec_big {u : Nat} (h : ¬ u < 10) : decDigits u = decDigits (u / 10) ++ [UInt8.ofNat (48 + u % 10)] := by rw [decDigits, dif_neg h]
theorem ofNat_dig {k : Nat} (h : k < 10) : (UInt8.ofNat (48 + k)).toNat = 48 + k := by simp [UInt8.toNat_ofNat']; omega
theorem dec_ok (u : Nat) : (∀ c ∈ decDigits u, Dig c) ∧ valA 0 (decDigits u) = u ∧ decDigits u ≠ [] := by
  induction u using Nat.strongRecOn with
  | _ u ih =>
    by_cases h : u < 10
    · rw [dec_small h]
      refine ⟨fun c hc => ?_, ?_, by simp⟩
      · have : c = UInt8.ofNat (48 + u) := by simpa using hc
        subst this
        unfold Dig; rw [ofNat_dig h]; omega
      · simp only [valA, List.foldl_cons, List.foldl_nil]; rw [ofNat_dig h]; omega
    · obtain ⟨h1, h2, h3⟩ := ih (u / 10) (by omega)
      rw [dec_big h]
      refine ⟨fun c hc => ?_, ?_, by simp⟩
      · rcases List.mem_append.1 hc with hc | hc
        · exact h1 c hc
        · have : c = UInt8.ofNat (48 + u % 10) := by simpa using hc
          subst this
          unfold Dig; rw [ofNat_dig (by omega)]; omega
      · rw [valA_app, h2]
        simp only [valA, List.foldl_cons, List.foldl_nil]; rw [ofNat_dig (by omega)]; omega
theorem dec_head (u : Nat) : (decDigits u).head? = some 48 → u = 0 := by
  induction u using Nat.strongRecOn with
  | _ u ih =>
    intro h
    by_cases hu : u < 10
    · rw [dec_small hu] at h
      simp only [List.head?_cons, Option.some.injEq] at h
      have := congrArg UInt8.toNat h
      rw [ofNat_dig hu] at this
      simp at this; omega
    · rw [dec_big hu, List.head?_append] at h
      obtain ⟨_, _, h3⟩ := dec_ok (u / 10)
      cases e : decDigits (u / 10) with
      | nil => exact absurd e h3
      | cons c r =>
        rw [e] at h
        have := ih (u / 10) (by omega) (by rw [e]; simpa using h)
        omega
/-- digits without a needless nought are the numeral of what they spell. -/
theorem dec_val : ∀ (n : Nat) (l : Bs), l.length = n → (∀ c ∈ l, Dig c) → l ≠ [] → (l.length = 1 ∨ l.head? ≠ some 48) → decDigits (valA 0 l) = l
  | n, l, hn, hd, hne, hz => by
    rcases List.eq_nil_or_concat l with rfl | ⟨m, c, rfl⟩
    · exact absurd rfl hne
    · have hc := hd c (by simp)
      have hm : ∀ x ∈ m, Dig x := fun x hx => hd x (by simp [hx])
      simp only [List.concat_eq_append] at *
      rw [valA_app]
      simp only [valA, List.foldl_cons, List.foldl_nil]
      cases hme : m with
      | nil =>
        simp only [List.foldl_nil, List.nil_append]
        unfold Dig at hc
        rw [dec_small (by omega)]
        congr 1
        apply UInt8.toNat_inj.1
        rw [ofNat_dig (by omega)]; omega
      | cons a r =>
        rw [← hme]
        have hh : m.head? ≠ some 48 := by
          rcases hz with h | h
          · rw [hme] at h; simp at h
          · rw [List.head?_append, hme] at h; rw [hme]; simpa using h
        have ih := dec_val m.length m rfl hm (by rw [hme]; simp) (.inr hh)
        unfold valA at ih
        have hpos : 1 ≤ m.foldl (fun a c => a * 10 + (c.toNat - 48)) 0 := by
          rcases Nat.eq_zero_or_pos (m.foldl (fun a c => a * 10 + (c.toNat - 48)) 0) with h0 | h0
          · rw [h0, dec_small (by omega)] at ih
            rw [← ih] at hh
            exact absurd rfl hh
          · exact h0
        unfold Dig at hc
        rw [dec_big (by omega)]
        have e1 : (m.foldl (fun a c => a * 10 + (c.toNat - 48)) 0 * 10 + (c.toNat - 48)) / 10 = m.foldl (fun a c => a * 10 + (c.toNat - 48)) 0 := by omega
        have e2 : (m.foldl (fun a c => a * 10 + (c.toNat - 48)) 0 * 10 + (c.toNat - 48)) % 10 = c.toNat - 48 := by omega
        rw [e1, e2, ih]
        congr 2
        apply UInt8.toNat_inj.1
        rw [ofNat_dig (by omega)]; omega
termination_by n => n
decreasing_by simp at hn; omega

def Int64 (v : Int) : Prop := -9223372036854775808 ≤ v ∧ v ≤ 9223372036854775807
/-- a text that is the number v. -/
def NumOk (l : Bs) (v : Int) : Prop := Int64 v ∧ l = itoa v
theorem dec_not_sign (u : Nat) {c : UInt8} {r : Bs} (h : decDigits u = c :: r) : c.toNat ≠ 43 ∧ c.toNat ≠ 45 := by
  have := (dec_ok u).1 c (by rw [h]; exact List.mem_cons_self)
  unfold Dig at this; omega
theorem mag_dec {u : Nat} (h : u < 18446744073709551616) : parseMag (decDigits u) = .ok u := by
  obtain ⟨h1, h2, h3⟩ := dec_ok u
  unfold parseMag
  rw [if_neg h3, parse_dig _ 0 (by omega) h1, h2, if_pos h]
/-- a number's numeral is read as that number. -/
theorem atoi_itoa {v : Int} (h : Int64 v) : atoiAll (itoa v) = .ok v := by
  unfold itoa
  split
  · rename_i hv
    have : atoiAll (45 :: decDigits v.natAbs) = _ := rfl
    simp only [atoiAll]
    have h45 : (45 : UInt8).toNat = 45 := rfl
    rw [if_pos (.inr h45), mag_dec (by unfold Int64 at h; omega)]
    simp only [h45, not_true, false_and, if_false, true_and]
    unfold Int64 at h
    rw [if_neg (by omega)]
    simp; omega
  · rename_i hv
    obtain ⟨_, _, h3⟩ := dec_ok v.toNat
    cases e : decDigits v.toNat with
    | nil => exact absurd e h3
    | cons c r =>
      obtain ⟨s1, s2⟩ := dec_not_sign _ e
      simp only [atoiAll]
      rw [if_neg (by omega), ← e, mag_dec (by unfold Int64 at h; omega)]
      unfold Int64 at h
      simp only [s2, not_false_eq_true, true_and, false_and, if_false]
      rw [if_neg (by omega)]
      simp; omega
theorem atoi_range {l : Bs} {v : Int} (h : atoiAll l = .ok v) : Int64 v := by
  unfold atoiAll at h
  split at h
  · cases h
  · simp only at h
    split at h
    · cases h
    · cases h
    · rename_i u _
      split at h
      · cases h
      · split at h
        · cases h
        · injection h with h
          subst h
          unfold Int64
          split <;> omega
theorem NumOk.inj {l : Bs} {v w : Int} (h : NumOk l v) (h' : NumOk l w) : v = w := by
  have h1 := atoi_itoa h.1
  have h2 := atoi_itoa h'.1
  rw [← h.2] at h1; rw [← h'.2, h1] at h2
  injection h2
theorem numOk_atoi {l : Bs} {v : Int} (h : NumOk l v) : atoiAll l = .ok v := by rw [h.2]; exact atoi_itoa h.1

/-- the document's reading: the digits; what they spell. -/
def refM (l : Bs) : Bool := l.head? == some 45
def refD (l : Bs) : Bs := if refM l = true then l.drop 1 else l
def refBad (l : Bs) : Prop := (refD l).length = 0 ∨ 19 < (refD l).length ∨ (1 < (refD l).length ∧ (refD l).head? = some 48) ∨ (refM l = true ∧ refD l = [48])
instance (l : Bs) : Decidable (refBad l) := by unfold refBad; infer_instance
def refNum (l : Bs) : Option Int :=
  if refBad l then none
  else if ∀ c ∈ refD l, Dig c then
    if refM l = true then (if 9223372036854775808 < valA 0 (refD l) then none else some (-(valA 0 (refD l) : Int))) else (if 9223372036854775807 < valA 0 (refD l) then none else some (valA 0 (refD l) : Int))
  else none
theorem valA_lt : ∀ (l : Bs) (acc : Nat), (∀ c ∈ l, Dig c) → valA acc l < (acc + 1) * 10 ^ l.length
  | [], acc, _ => by simp [valA]
  | c :: l, acc, h => by
    rw [valA_cons]
    have hc := h c List.mem_cons_self
    unfold Dig at hc
    have := valA_lt l (acc * 10 + (c.toNat - 48)) (fun x hx => h x (List.mem_cons_of_mem _ hx))
    refine Nat.lt_of_lt_of_le this ?_
    rw [List.length_cons, Nat.pow_succ, Nat.mul_comm (10 ^ l.length) 10, ← Nat.mul_assoc]
    exact Nat.mul_le_mul_right _ (by omega)
theorem dec_len {u : Nat} (h : u < 10 ^ 19) : (decDigits u).length ≤ 19 := by
  have key : ∀ (k u : Nat), u < 10 ^ (k + 1) → (decDigits u).length ≤ k + 1 := by
    intro k
    induction k with
    | zero => intro u hu; rw [dec_small (by simpa using hu)]; simp
    | succ k ih =>
      intro u hu
      by_cases h : u < 10
      · rw [dec_small h]; simp
      · rw [dec_big h]
        have := ih (u / 10) (by rw [Nat.pow_succ] at hu; omega)
        simp; omega
  exact key 18 u h
theorem refNum_ok (l : Bs) (v : Int) : refNum l = some v ↔ NumOk l v := by
  constructor
  · intro h
    unfold refNum at h
    by_cases hg : refBad l
    · rw [if_pos hg] at h; cases h
    rw [if_neg hg] at h
    unfold refBad at hg
    simp only [not_or, not_and] at hg
    obtain ⟨g1, g2, g3, g4⟩ := hg
    by_cases hd : ∀ c ∈ refD l, Dig c
    case neg => rw [if_neg hd] at h; cases h
    rw [if_pos hd] at h
    have hdec := dec_val _ _ rfl hd (fun e => g1 (by rw [e]; rfl)) (by
      by_cases hl : (refD l).length = 1
      · exact .inl hl
      · exact .inr (g3 (by omega)))
    by_cases hm : refM l = true
    · rw [if_pos hm] at h
      by_cases hn : 9223372036854775808 < valA 0 (refD l)
      · rw [if_pos hn] at h; cases h
      rw [if_neg hn] at h
      cases h
      have hl : l = 45 :: refD l := by
        unfold refD; rw [if_pos hm]
        unfold refM at hm
        cases l with
        | nil => cases hm
        | cons c r =>
          have : c = 45 := by simpa using hm
          subst this; rfl
      have hpos : valA 0 (refD l) ≠ 0 := fun h0 => by
        rw [h0, dec_small (by omega)] at hdec
        exact g4 hm hdec.symm
      refine ⟨by unfold Int64; omega, ?_⟩
      unfold itoa
      rw [if_pos (by omega)]
      rw [show (-(valA 0 (refD l) : Int)).natAbs = valA 0 (refD l) by omega, hdec]
      exact hl
    · rw [if_neg hm] at h
      by_cases hn : 9223372036854775807 < valA 0 (refD l)
      · rw [if_pos hn] at h; cases h
      rw [if_neg hn] at h
      cases h
      have hl : refD l = l := by unfold refD; rw [if_neg hm]
      refine ⟨by unfold Int64; omega, ?_⟩
      unfold itoa
      rw [if_neg (by omega)]
      rw [show (valA 0 (refD l) : Int).toNat = valA 0 (refD l) by omega, hdec, hl]
  · rintro ⟨h1, rfl⟩
    unfold Int64 at h1
    unfold itoa
    split
    · rename_i hv
      obtain ⟨d1, d2, d3⟩ := dec_ok v.natAbs
      have hm : refM (45 :: decDigits v.natAbs) = true := rfl
      have hD : refD (45 :: decDigits v.natAbs) = decDigits v.natAbs := by unfold refD; rw [if_pos hm]; rfl
      unfold refNum
      rw [if_neg, hD, if_pos d1, if_pos hm, d2, if_neg (by omega)]
      · congr 1; omega
      · unfold refBad
        rw [hD]
        simp only [not_or, not_and]
        refine ⟨by simpa using d3, by have := dec_len (u := v.natAbs) (by omega); omega, fun _ h => ?_, fun _ h => ?_⟩
        · have := dec_head _ h; omega
        · rw [h] at d2; simp [valA] at d2; omega
    · rename_i hv
      obtain ⟨d1, d2, d3⟩ := dec_ok v.toNat
      have hm : ¬ refM (decDigits v.toNat) = true := by
        cases e : decDigits v.toNat with
        | nil => exact absurd e d3
        | cons c r =>
          have := (dec_not_sign _ e).2
          intro hb
          have hb : c = 45 := by simpa [refM] using hb
          subst hb; exact this rfl
      have hD : refD (decDigits v.toNat) = decDigits v.toNat := by unfold refD; rw [if_neg hm]
      unfold refNum
      rw [if_neg, hD, if_pos d1, if_neg hm, d2, if_neg (by omega)]
      · congr 1; omega
      · unfold refBad
        rw [hD]
        simp only [not_or, not_and]
        refine ⟨by simpa using d3, by have := dec_len (u := v.toNat) (by omega); omega, fun h2 h => ?_, fun h _ => hm h⟩
        have h0 := dec_head _ h
        rw [h0, dec_small (by omega)] at h2
        simp at h2
end Go.Proofs.YtmfmcegpoiinjaaDoor.HM
