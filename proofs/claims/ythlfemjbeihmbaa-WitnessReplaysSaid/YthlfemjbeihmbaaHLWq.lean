/- What the functions of the law's texts compute: order, whole. Conditions: what is handed in tells 'Ahead'. -/
import Derived.Test.YthlfemjbeihmbaaHLWp
namespace Go.Proofs.Ythlfemjbeihmbaa.HL
open Go
open Classical

theorem s18_wp {H : Heap} {Q : HV → Heap → Prop} {s : Sl} {l : List Dd} (hs : Deeds H s l) (hn : l.length ≤ 1000) {D : HV → List HV → M HV} {fv : HV}
    (hD : ∀ (H' : Heap) (i k : Nat) (hi : i < l.length) (hk : k < l.length), Keeps H H' → ∀ R : HV → Heap → Prop, (∀ x : Bool, (x = true ↔ Ahead l[i] l[k]) → R (.bool x) H') → wp (D fv [.agg (l[i]).cs, .agg (l[k]).cs]) R H')
    (h1 : ∀ (S : List Nat) s' H', S.length = l.length → Chain (Ahd l) l.length S → Own H H' s' 1 (S.map fun x : Nat => [I x]) → Q (.tup [.sl s', .bool true]) H')
    (h2 : ∀ (S : List Nat) H', S.length < l.length → Chain (Ahd l) l.length S → (∀ k, ¬ Pick (Ahd l) l.length S k) → Keeps H H' → Q (.tup [.sl ⟨none, 0, 0, none⟩, .bool false]) H') :
    wp (s18 D [.sl s, fv]) Q H := by
  unfold s18
  have hlen : s.len = l.length := hs.len
  refine wp_fin (wp_uL (wp_uc (wp_nl (wp_gd (by simp) (wp_gd (by simp) (wp_gd (decide_eq_true (by simp only [room, Int.toNat_natCast, hlen]; omega)) ?_))))))
  refine wp_nw ?_
  have hk0 : Keeps H (H.push (.cells (repL (s.len : Int).toNat [I 0]) false)) := Keeps.push _ _
  have hn0 : Nums (H.push (.cells (repL (s.len : Int).toNat [I 0]) false)) H.n (w1 (Ahd l) l.length 0 0) := by
    refine ⟨by simp [Heap.push], ?_, by rw [w1_len]; omega⟩
    simp only [Heap.push, if_pos]
    rw [repL_one, hlen]
    congr 1
    apply List.ext_getElem?
    intro j
    rw [List.getElem?_map]
    simp only [Int.toNat_natCast, List.getElem?_replicate]
    by_cases hj : j < l.length
    · rw [w1_get hj, waitN_none, if_pos hj, if_neg (by omega)]; rfl
    · rw [List.getElem?_eq_none (by rw [w1_len]; omega), if_neg hj]; rfl
  refine wp_blk ?_
  refine wp_range (σ := Unit) l.length (fun i _ => [I i]) (fun i _ H' => Keeps H H' ∧ Nums H' H.n (w1 (Ahd l) l.length i 0)) () rfl ⟨hk0, hn0⟩ ?_ ?_
  · rintro i _ H1 hi ⟨hk1, hw⟩
    refine wp_uI (wp_nl (wp_cond (fun _ => ?_) (fun hc => ?_)))
    · refine wp_ixN (hs.sl.keeps hk1) (by omega) (hs.at hi) (fun _ _ => wp_uL (wp_uL (wp_nl ?_)))
      refine s18_first hs hn hD hk1 (Nat.le_refl _) hi hw (fun H2 hk2 hw2 => ?_) rfl
      exact wp_nl (wp_ret ⟨(), by rw [wr_succ hi hs.lt], hk2, hw2⟩)
    · rw [hs.len] at hc; simp at hc; omega
  · rintro _ H1 ⟨hk1, hw⟩
    refine wp_uI (wp_nl (wp_cond (fun hc => ?_) (fun _ => wp_ret ?_)))
    · rw [hs.len] at hc; simp at hc
    refine wp_nl ?_
    refine wp_blk ?_
    refine wp_range (σ := List Nat × List Int × Sl) l.length (fun i x => [.sl x.2.2, I i])
      (fun i x H' => x.1.length = i ∧ Chain (Ahd l) l.length x.1 ∧ WS (Ahd l) l.length x.1 x.2.1 ∧ Nums H' H.n x.2.1 ∧ Own H H' x.2.2 1 (x.1.map fun y : Nat => [I y]) ∧ x.2.2.p ≠ some (H.n, 0))
      ([], w1 (Ahd l) l.length l.length 0, ⟨none, 0, 0, none⟩) rfl ⟨rfl, fun t k hk => by simp at hk, WS.start, hw, Own.nil hk1 1, by simp⟩ ?_ ?_
    · rintro i ⟨S, w, x⟩ H2 hi ⟨hS, hch, hws, hnm, hown, hxp⟩
      simp only at hS hch hws hnm hown hxp
      have hwl : w.length = l.length := hws.1
      have hsl : (⟨some (H.n, 0), (s.len : Int).toNat, (s.len : Int).toNat, none⟩ : Sl) = numSl H.n w.length := by
        rw [hwl, hlen]; simp [numSl]
      refine wp_uL (wp_uI (wp_nl (wp_cond (fun _ => ?_) (fun hc => ?_))))
      · refine wp_bnd (s30_wp (l := w) (hsl ▸ hnm.ints) 0 ?_)
        rintro n (⟨rfl, hno⟩ | ⟨j, rfl, hj, hmin⟩)
        · refine wp_asI (wp_cond (fun _ => wp_ret ?_) (fun hc => by simp at hc))
          refine h2 S H2 (by omega) hch (fun k hk => ?_) hown.keeps
          exact hno (List.mem_of_getElem? ((hws.pick k).1 hk))
        · have hjw : j < w.length := (List.getElem?_eq_some_iff.1 hj).1
          have hpk := (hws.pick j).2 hj
          refine wp_asI (wp_cond (fun hc => by simp at hc; omega) (fun _ => ?_))
          refine wp_numset hnm hsl (by omega) (by simpa using hjw) (fun hn2 => ?_)
          have hbd := hws.bound hn (by omega)
          refine s18_second hs hD (Nat.le_refl _) (nx := j) (by omega) (u := w.set j (-1)) (by simp [hwl]) (fun y hy => ?_)
            (fun H' => Own H H' x 1 (S.map fun y : Nat => [I y])) (hown.keeps.set (Nat.le_refl _) _) (hown.set (Nat.le_refl _) hxp _) (fun H' c _ hP => hP.set (Nat.le_refl _) hxp _) hn2 (fun H3 hk3 hP3 hn3 => ?_) rfl rfl
          · rcases List.mem_or_eq_of_mem_set hy with hy | rfl
            · have := hbd y hy; omega
            · omega
          · refine wp_nl ?_
            refine wp_apd hP3 (l := [I j]) rfl (by omega) (by simp only [List.length_map, hS, room]; omega) (by simp only [List.length_map, hS, room]; omega) ?_
            intro s' H4 ho4 hk4 hn4 hp4
            refine wp_ret ⟨(S ++ [j], w2 (Ahd l) (w.set j (-1)) l.length j l.length, s'), by rw [wr_succ hi hs.lt], by simp [hS], hch.snoc hpk (fun q hq hh => hmin q hq ((hws.pick q).1 hh)), hws.next (by omega) hpk.2.1, ?_, ?_, ?_⟩
            · exact hn3.besides hn4 (hk4 _ hn3.lt hxp)
            · rw [List.map_append]; exact ho4
            · show s'.p ≠ some (H.n, 0)
              rw [hp4]
              have := hn3.lt
              intro hh
              simp at hh
              omega
      · rw [hs.len] at hc; simp at hc; omega
    · rintro ⟨S, w, x⟩ H2 ⟨hS, hch, hws, hnm, hown, hxp⟩
      simp only at hS hch hws hnm hown hxp
      refine wp_uL (wp_uI (wp_nl (wp_cond (fun hc => ?_) (fun _ => wp_ret ?_))))
      · rw [hs.len] at hc; simp at hc
      · exact wp_uL (wp_nl (wp_ret (h1 S x H2 hS hch hown)))

/-- Serial: what it answers. -/
theorem s10_wp {H : Heap} {Q : HV → Heap → Prop} {s : Sl} {l : List Dd} (hs : Deeds H s l) (hf : ∀ d ∈ l, DFit d) {D : HV → List HV → M HV}
    (hD : ∀ xs, D (.func 19 [] []) xs = s19 noD xs)
    (h0 : 160 < l.length → Q (.tup [.sl ⟨none, 0, 0, none⟩, I 3]) H)
    (h1 : l.length ≤ 160 → ¬ CanP l → Q (.tup [.sl ⟨none, 0, 0, none⟩, I 1]) H)
    (h2 : l.length ≤ 160 → CanP l → ∀ H', Keeps H H' → (¬ NoSelf l ∨ NoSelf l ∧ ∃ S : List Nat, S.length < l.length ∧ Chain (Ahd l) l.length S ∧ ∀ k, ¬ Pick (Ahd l) l.length S k) → Q (.tup [.sl ⟨none, 0, 0, none⟩, I 5]) H')
    (h3 : l.length ≤ 160 → CanP l → NoSelf l → ∀ (S : List Nat) s' H', S.length = l.length → Chain (Ahd l) l.length S → Own H H' s' 1 (S.map fun x : Nat => [I x]) → Q (.tup [.sl s', I 0]) H') :
    wp (s10 D [.sl s]) Q H := by
  unfold s10
  refine wp_fin (wp_uL (wp_nl (wp_cond (fun c => wp_ret ?_) (fun c => ?_))))
  · rw [hs.len] at c; simp at c; exact h0 (by omega)
  have hl : l.length ≤ 160 := by rw [hs.len] at c; simp at c; omega
  refine wp_bnd (s16_wp hs fun x hx => wp_asB (wp_cond (fun c2 => wp_ret ?_) (fun c2 => ?_)))
  · have : x = false := by simpa using c2
    subst this
    exact h1 hl fun hh => by have := hx.2 hh; cases this
  have hcan : CanP l := hx.1 (by simpa using c2)
  refine wp_blk ?_
  refine wp_range (σ := Unit) l.length (fun i _ => [I i]) (fun i _ H' => H' = H ∧ ∀ (j : Nat) (d : Dd), j < i → l[j]? = some d → ¬ Younger d.w d.r 0) () rfl ⟨rfl, fun j a hj => by omega⟩ ?_ ?_
  · rintro i _ H' hi ⟨rfl, hno⟩
    refine wp_uI (wp_nl (wp_cond (fun _ => ?_) (fun hc => ?_)))
    · refine wp_ixN hs.sl (by omega) (hs.at hi) (fun _ _ => wp_uL (wp_uL (wp_nl ?_)))
      refine wp_bnd (s17_wp (hs.w hi) (hs.r hi) (by omega) (hf _ (List.getElem_mem hi)).r fun y hy => ?_)
      refine wp_asB (wp_cond (fun c3 => wp_ret ?_) (fun c3 => wp_ret ?_))
      · exact h2 hl hcan H' (Keeps.refl _) (.inl fun hh => hh _ (List.getElem_mem hi) (hy.1 c3))
      · refine ⟨(), by rw [wr_succ hi hs.lt], rfl, fun j d hj hjd => ?_⟩
        by_cases hji : j = i
        · subst hji; rw [List.getElem?_eq_getElem hi] at hjd; cases hjd
          intro hh; have := hy.2 hh; rw [c3] at this; cases this
        · exact hno j d (by omega) hjd
    · rw [hs.len] at hc; simp at hc; omega
  · rintro _ H' ⟨rfl, hno⟩
    have hns : NoSelf l := fun d hd => by
      obtain ⟨j, hj, rfl⟩ := List.getElem_of_mem hd
      exact hno j _ hj (List.getElem?_eq_getElem hj)
    refine wp_uI (wp_nl (wp_cond (fun hc => ?_) (fun _ => wp_ret ?_)))
    · rw [hs.len] at hc; simp at hc
    refine wp_nl ?_
    refine wp_bnd (s18_wp hs (by omega) ?_ ?_ ?_)
    · intro H2 i k hi hk hkp R hR
      rw [hD]
      exact s19_wp ⟨SlR.keeps (hs.r hi) hkp, SlR.keeps (hs.w hi) hkp⟩ ⟨SlR.keeps (hs.r hk) hkp, SlR.keeps (hs.w hk) hkp⟩ (hf _ (List.getElem_mem hk)) hR
    · intro S s' H2 hS hch ho
      exact wp_asT (wp_uL (wp_uB (wp_nl (wp_cond (fun c => by simp at c) (fun _ => wp_ret (h3 hl hcan hns S s' H2 hS hch ho))))))
    · intro S H2 hS hch hno hk
      exact wp_asT (wp_uL (wp_uB (wp_nl (wp_cond (fun _ => wp_ret (h2 hl hcan H2 hk (.inr ⟨hns, S, hS, hch, hno⟩))) (fun c => by simp at c)))))
end Go.Proofs.Ythlfemjbeihmbaa.HL
