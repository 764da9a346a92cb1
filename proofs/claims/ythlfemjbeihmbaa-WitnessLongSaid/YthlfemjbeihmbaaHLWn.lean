/- What the functions of the law's texts compute: order, one round. Conditions: what is handed in tells 'Ahead'. -/
import Derived.Test.YthlfemjbeihmbaaHLWl
namespace Go.Proofs.Ythlfemjbeihmbaa.HL
open Go
open Classical

noncomputable def w2 (A : Nat → Nat → Prop) (u : List Int) (n nx kk : Nat) : List Int := (List.range n).map fun k => u.getD k 0 - (if k < kk ∧ k ≠ nx ∧ A nx k then 1 else 0)
theorem w2_len {A : Nat → Nat → Prop} {u : List Int} {n nx kk : Nat} : (w2 A u n nx kk).length = n := by simp [w2]
theorem w2_get {A : Nat → Nat → Prop} {u : List Int} {n nx kk k : Nat} (hk : k < n) : (w2 A u n nx kk)[k]? = some (u.getD k 0 - (if k < kk ∧ k ≠ nx ∧ A nx k then 1 else 0)) := by
  simp [w2, hk]
theorem w2_zero {A : Nat → Nat → Prop} {u : List Int} {n nx : Nat} (hu : u.length = n) : w2 A u n nx 0 = u := by
  apply List.ext_getElem?
  intro j
  by_cases hj : j < n
  · rw [w2_get hj, if_neg (by omega)]
    rw [List.getElem?_eq_getElem (by omega)]
    simp [List.getD_eq_getElem?_getD, List.getElem?_eq_getElem (show j < u.length by omega)]
  · rw [List.getElem?_eq_none (by rw [w2_len]; omega), List.getElem?_eq_none (by omega)]

theorem s18_second {H : Heap} {s : Sl} {l : List Dd} (hs : Deeds H s l) {D : HV → List HV → M HV} {fv : HV}
    (hD : ∀ (H' : Heap) (i k : Nat) (hi : i < l.length) (hk : k < l.length), Keeps H H' → ∀ R : HV → Heap → Prop, (∀ x : Bool, (x = true ↔ Ahead l[i] l[k]) → R (.bool x) H') → wp (D fv [.agg (l[i]).cs, .agg (l[k]).cs]) R H')
    {H1 : Heap} {b : Nat} (hb : H.n ≤ b) {nx : Nat} (hi : nx < l.length) {u : List Int} (hul : u.length = l.length) (hub : ∀ x ∈ u, -100000 ≤ x ∧ x ≤ 100000) (P : Heap → Prop) (hk1 : Keeps H H1) (hP : P H1)
    (hPs : ∀ H' c, Keeps H H' → P H' → P (H'.set b c)) (hw : Nums H1 b u) {Q : Leaf → Heap → Prop} {K : List HV → M Leaf}
    (hq : ∀ H2, Keeps H H2 → P H2 → Nums H2 b (w2 (Ahd l) u l.length nx l.length) → wp (K []) Q H2) {body : List HV → M Leaf} {x54 : Int} (hx54 : x54 = nx)
    (hbody : body = fun vs => uI .i64 vs fun x62 r_13 => nl r_13 (cond (decide (x62 < (s.len : Int))) (blk 7 (ix s x62 2 fun x65b x65o => ldN x65b x65o 2 fun x66l => uL x66l fun x66c0 r_14 => uL r_14 fun x66c1 r_15 => nl r_15 (
      jn (cond (x62 != x54) (ix s x54 2 fun x74b x74o => ldN x74b x74o 2 fun x75l => uL x75l fun x75c0 r_16 => uL r_16 fun x75c1 r_17 => nl r_17 (bnd (D fv [.agg [.sl x75c0, .sl x75c1], .agg [.sl x66c0, .sl x66c1]]) fun r_18 => asB r_18 fun x77 => ret (.norm [.bool x77]))) (ret (.norm [.bool false]))) fun vs_11 => uB vs_11 fun x78 r_19 => nl r_19 (
      cond x78 (ix (⟨some (b, 0), (s.len : Int).toNat, (s.len : Int).toNat, none⟩) x62 1 fun x81b x81o => ldC x81b x81o fun v_1 => asI .i64 v_1 fun x82 =>
        ix (⟨some (b, 0), (s.len : Int).toNat, (s.len : Int).toNat, none⟩) x62 1 fun x84b x84o => stC x84b x84o (I (wr (x82 - 1))) (ret (.norm []))) (ret (.norm []))))) fun vs_10 => nl vs_10 (ret (.norm [I (wr (x62 + 1))]))) (ret (.exit 6 [])))) :
    wp (blk 6 (loopD body [I 0]) K) Q H1 := by
  subst hbody; subst hx54
  refine wp_blk ?_
  refine wp_range (σ := Unit) l.length (fun k _ => [I k]) (fun k _ H' => Keeps H H' ∧ P H' ∧ Nums H' b (w2 (Ahd l) u l.length nx k)) () rfl ⟨hk1, hP, by rw [w2_zero hul]; exact hw⟩ ?_ ?_
  · rintro k _ H' hk ⟨hkp, hPp, hnm⟩
    have hs' := hs.sl.keeps hkp
    have hsl : (⟨some (b, 0), (s.len : Int).toNat, (s.len : Int).toNat, none⟩ : Sl) = numSl b (w2 (Ahd l) u l.length nx k).length := by
      rw [w2_len, hs.len]; simp [numSl]
    refine wp_uI (wp_nl (wp_cond (fun _ => ?_) (fun hc => ?_)))
    · refine wp_blk ?_
      refine wp_ixN hs' (by omega) (hs.at hk) (fun _ _ => wp_uL (wp_uL (wp_nl ?_)))
      refine wp_jn (wp.mono (Q := LB (k ≠ nx ∧ Ahd l nx k) H') ?_ ?_)
      · refine wp_cond (fun c => ?_) (fun c => wp_ret (.mk _ ?_))
        · have hik : k ≠ nx := by intro hh; subst hh; simp at c
          refine wp_ixN hs' (by omega) (hs.at hi) (fun _ _ => wp_uL (wp_uL (wp_nl ?_)))
          refine wp_bnd (hD H' nx k hi hk hkp _ fun x hx => ?_)
          refine wp_asB (wp_ret (.mk _ ?_))
          rw [hx, ahd_iff hi hk]
          exact ⟨fun h => ⟨hik, h⟩, fun h => h.2⟩
        · have hik : k = nx := by simp at c; omega
          exact ⟨fun h => (by cases h), fun h => absurd hik h.1⟩
      · rintro _ H3 ⟨x, rfl, hx, rfl⟩
        refine wp_uB (wp_nl (wp_cond (fun c => ?_) (fun c => wp_ret ?_)))
        · have hcond := hx.1 c
          have hlt : (k : Int).toNat < (w2 (Ahd l) u l.length nx k).length := by rw [w2_len]; simpa using hk
          refine wp_numget hnm hsl (by omega) hlt (fun _ _ => wp_asI ?_)
          refine wp_numset hnm hsl (by omega) hlt (fun hn2 => wp_ret ?_)
          refine wp_nl (wp_ret ⟨(), by rw [wr_succ hk hs.lt], hkp.set hb _, hPs _ _ hkp hPp, ?_⟩)
          have hget := w2_get (A := Ahd l) (u := u) (n := l.length) (nx := nx) (kk := k) hk
          have hval : (w2 (Ahd l) u l.length nx k)[(k : Int).toNat] = u.getD k 0 := by
            have h2 : (w2 (Ahd l) u l.length nx k)[(k : Int).toNat]? = some (u.getD k 0) := by
              simpa using hget
            rw [List.getElem?_eq_getElem hlt] at h2
            exact Option.some.inj h2
          have hbd : -100000 ≤ u.getD k 0 ∧ u.getD k 0 ≤ 100000 := by
            have hku : k < u.length := by omega
            rw [List.getD_eq_getElem?_getD, List.getElem?_eq_getElem hku]
            exact hub _ (List.getElem_mem hku)
          have heq : (w2 (Ahd l) u l.length nx k).set (k : Int).toNat (wr ((w2 (Ahd l) u l.length nx k)[(k : Int).toNat] - 1)) = w2 (Ahd l) u l.length nx (k + 1) := by
            refine set_eq_of w2_len w2_len (by simpa using hk) ?_ ?_
            · rw [hval, wr_small (by omega) (by omega)]
              simp only [Int.toNat_natCast]
              rw [w2_get hk, if_pos ⟨by omega, hcond⟩]
            · intro j hj hjk
              simp only [Int.toNat_natCast] at hjk
              rw [w2_get hj, w2_get hj]
              have : (j < k + 1 ∧ j ≠ nx ∧ Ahd l nx j) ↔ (j < k ∧ j ≠ nx ∧ Ahd l nx j) := by
                constructor
                · rintro ⟨q, r⟩; exact ⟨by omega, r⟩
                · rintro ⟨q, r⟩; exact ⟨by omega, r⟩
              simp only [this]
          rw [← heq]
          exact hn2
        · refine wp_nl (wp_ret ⟨(), by rw [wr_succ hk hs.lt], hkp, hPp, ?_⟩)
          have hcond : ¬ (k ≠ nx ∧ Ahd l nx k) := fun hh => by have := hx.2 hh; rw [c] at this; cases this
          have heq : w2 (Ahd l) u l.length nx k = w2 (Ahd l) u l.length nx (k + 1) := by
            apply List.ext_getElem?
            intro j
            by_cases hj : j < l.length
            · rw [w2_get hj, w2_get hj]
              have : (j < k + 1 ∧ j ≠ nx ∧ Ahd l nx j) ↔ (j < k ∧ j ≠ nx ∧ Ahd l nx j) := by
                constructor
                · rintro ⟨q, r⟩
                  refine ⟨?_, r⟩
                  rcases Nat.lt_or_ge j k with h2 | h2
                  · exact h2
                  · have : j = k := by omega
                    subst this; exact absurd r hcond
                · rintro ⟨q, r⟩; exact ⟨by omega, r⟩
              simp only [this]
            · rw [List.getElem?_eq_none (by rw [w2_len]; omega), List.getElem?_eq_none (by rw [w2_len]; omega)]
          rw [← heq]; exact hnm
    · rw [hs.len] at hc; simp at hc; omega
  · rintro _ H' ⟨hkp, hPp, hnm⟩
    refine wp_uI (wp_nl (wp_cond (fun hc => ?_) (fun _ => wp_ret ?_)))
    · rw [hs.len] at hc; simp at hc
    · exact hq H' hkp hPp hnm
end Go.Proofs.Ythlfemjbeihmbaa.HL
