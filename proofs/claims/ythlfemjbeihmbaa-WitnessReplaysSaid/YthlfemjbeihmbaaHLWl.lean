/- What the functions of the law's texts compute: order. Conditions: what is handed in tells 'Ahead'. -/
import Derived.Test.YthlfemjbeihmbaaHLWk
namespace Go.Proofs.Ythlfemjbeihmbaa.HL
open Go
open Classical

theorem s18_first {H : Heap} {s : Sl} {l : List Dd} (hs : Deeds H s l) (hn : l.length ≤ 1000) {D : HV → List HV → M HV} {fv : HV}
    (hD : ∀ (H' : Heap) (i k : Nat) (hi : i < l.length) (hk : k < l.length), Keeps H H' → ∀ R : HV → Heap → Prop, (∀ x : Bool, (x = true ↔ Ahead l[i] l[k]) → R (.bool x) H') → wp (D fv [.agg (l[i]).cs, .agg (l[k]).cs]) R H')
    {H1 : Heap} (hk1 : Keeps H H1) {b : Nat} (hb : H.n ≤ b) {i : Nat} (hi : i < l.length) (hw : Nums H1 b (w1 (Ahd l) l.length i 0)) {Q : Leaf → Heap → Prop} {K : List HV → M Leaf}
    (hq : ∀ H2, Keeps H H2 → Nums H2 b (w1 (Ahd l) l.length (i + 1) 0) → wp (K []) Q H2) {body : List HV → M Leaf}
    (hbody : body = fun vs => uI .i64 vs fun x27 r_5 => nl r_5 (cond (decide (x27 < (s.len : Int))) (blk 3 (ix s x27 2 fun x30b x30o => ldN x30b x30o 2 fun x31l => uL x31l fun x31c0 r_6 => uL r_6 fun x31c1 r_7 => nl r_7 (
      jn (cond ((i : Int) != x27) (bnd (D fv [.agg (l[i]).cs, .agg [.sl x31c0, .sl x31c1]]) fun r_8 => asB r_8 fun x39 => ret (.norm [.bool x39])) (ret (.norm [.bool false]))) fun vs_5 => uB vs_5 fun x40 r_9 => nl r_9 (
      cond x40 (ix (⟨some (b, 0), (s.len : Int).toNat, (s.len : Int).toNat, none⟩) x27 1 fun x43b x43o => ldC x43b x43o fun v => asI .i64 v fun x44 =>
        ix (⟨some (b, 0), (s.len : Int).toNat, (s.len : Int).toNat, none⟩) x27 1 fun x46b x46o => stC x46b x46o (I (wr (x44 + 1))) (ret (.norm []))) (ret (.norm []))))) fun vs_4 => nl vs_4 (ret (.norm [I (wr (x27 + 1))]))) (ret (.exit 2 [])))) :
    wp (blk 2 (loopD body [I 0]) K) Q H1 := by
  subst hbody
  refine wp_blk ?_
  refine wp_range (σ := Unit) l.length (fun k _ => [I k]) (fun k _ H' => Keeps H H' ∧ Nums H' b (w1 (Ahd l) l.length i k)) () rfl ⟨hk1, hw⟩ ?_ ?_
  · rintro k _ H' hk ⟨hkp, hnm⟩
    have hs' := hs.sl.keeps hkp
    have hsl : (⟨some (b, 0), (s.len : Int).toNat, (s.len : Int).toNat, none⟩ : Sl) = numSl b (w1 (Ahd l) l.length i k).length := by
      rw [w1_len, hs.len]; simp [numSl]
    refine wp_uI (wp_nl (wp_cond (fun _ => ?_) (fun hc => ?_)))
    · refine wp_blk ?_
      refine wp_ixN hs' (by omega) (hs.at hk) (fun _ _ => wp_uL (wp_uL (wp_nl ?_)))
      refine wp_jn (wp.mono (Q := LB (i ≠ k ∧ Ahd l i k) H') ?_ ?_)
      · refine wp_cond (fun c => ?_) (fun c => wp_ret (.mk _ ?_))
        · have hik : i ≠ k := by intro hh; subst hh; simp at c
          refine wp_bnd (hD H' i k hi hk hkp _ fun x hx => ?_)
          refine wp_asB (wp_ret (.mk _ ?_))
          rw [hx, ahd_iff hi hk]
          exact ⟨fun h => ⟨hik, h⟩, fun h => h.2⟩
        · have hik : i = k := by simp at c; omega
          exact ⟨fun h => (by cases h), fun h => absurd hik h.1⟩
      · rintro _ H3 ⟨x, rfl, hx, rfl⟩
        refine wp_uB (wp_nl (wp_cond (fun c => ?_) (fun c => wp_ret ?_)))
        · have hcond := hx.1 c
          have hlt : (k : Int).toNat < (w1 (Ahd l) l.length i k).length := by rw [w1_len]; simpa using hk
          refine wp_numget hnm hsl (by omega) hlt (fun _ _ => wp_asI ?_)
          refine wp_numset hnm hsl (by omega) hlt (fun hn2 => wp_ret ?_)
          refine wp_nl (wp_ret ⟨(), by rw [wr_succ hk hs.lt], hkp.set hb _, ?_⟩)
          have hget := w1_get (A := Ahd l) (n := l.length) (i := i) (kk := k) hk
          have hval : (w1 (Ahd l) l.length i k)[(k : Int).toNat] = ((waitN (Ahd l) (fun j => j < i) l.length k : Nat) : Int) := by
            have h2 : (w1 (Ahd l) l.length i k)[(k : Int).toNat]? = some ((waitN (Ahd l) (fun j => j < i) l.length k : Nat) : Int) := by
              simpa using hget
            rw [List.getElem?_eq_getElem hlt] at h2
            exact Option.some.inj h2
          have hle : waitN (Ahd l) (fun j => j < i) l.length k ≤ l.length := waitN_le
          have heq : (w1 (Ahd l) l.length i k).set (k : Int).toNat (wr ((w1 (Ahd l) l.length i k)[(k : Int).toNat] + 1)) = w1 (Ahd l) l.length i (k + 1) := by
            refine set_eq_of w1_len w1_len (by simpa using hk) ?_ ?_
            · rw [hval, wr_small (by omega) (by omega)]
              simp only [Int.toNat_natCast]
              rw [w1_get hk, if_pos ⟨by omega, hcond⟩]; rfl
            · intro j hj hjk
              simp only [Int.toNat_natCast] at hjk
              rw [w1_get hj, w1_get hj]
              have : (j < k + 1 ∧ i ≠ j ∧ Ahd l i j) ↔ (j < k ∧ i ≠ j ∧ Ahd l i j) := by
                constructor
                · rintro ⟨q, r⟩; exact ⟨by omega, r⟩
                · rintro ⟨q, r⟩; exact ⟨by omega, r⟩
              simp only [this]
          rw [← heq]
          exact hn2
        · refine wp_nl (wp_ret ⟨(), by rw [wr_succ hk hs.lt], hkp, ?_⟩)
          have hcond : ¬ (i ≠ k ∧ Ahd l i k) := fun hh => by have := hx.2 hh; rw [c] at this; cases this
          have heq : w1 (Ahd l) l.length i k = w1 (Ahd l) l.length i (k + 1) := by
            apply List.ext_getElem?
            intro j
            by_cases hj : j < l.length
            · rw [w1_get hj, w1_get hj]
              have : (j < k + 1 ∧ i ≠ j ∧ Ahd l i j) ↔ (j < k ∧ i ≠ j ∧ Ahd l i j) := by
                constructor
                · rintro ⟨q, r⟩
                  refine ⟨?_, r⟩
                  rcases Nat.lt_or_ge j k with h2 | h2
                  · exact h2
                  · have : j = k := by omega
                    subst this; exact absurd r hcond
                · rintro ⟨q, r⟩; exact ⟨by omega, r⟩
              simp only [this]
            · rw [List.getElem?_eq_none (by rw [w1_len]; omega), List.getElem?_eq_none (by rw [w1_len]; omega)]
          rw [← heq]; exact hnm
    · rw [hs.len] at hc; simp at hc; omega
  · rintro _ H' ⟨hkp, hnm⟩
    refine wp_uI (wp_nl (wp_cond (fun hc => ?_) (fun _ => wp_ret ?_)))
    · rw [hs.len] at hc; simp at hc
    · rw [w1_next hi] at hnm
      exact hq H' hkp hnm
end Go.Proofs.Ythlfemjbeihmbaa.HL
