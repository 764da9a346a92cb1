/- The laws of histories answer true. Conditions: memory is as what came in is (Deeds, Ints). -/
import Derived.Test.YthlfemjbeihmbaaHLWt
namespace Go.Proofs.Ythlfemjbeihmbaa.HL
open Go
open Classical

theorem Deeds.keeps {H H' : Heap} {s : Sl} {l : List Dd} (h : Deeds H s l) (k : Keeps H H') : Deeds H' s l := ⟨h.sl.keeps k, fun d hd => ⟨SlR.keeps (h.ok d hd).1 k, SlR.keeps (h.ok d hd).2 k⟩⟩
theorem Ints.keeps {H H' : Heap} {s : Sl} {l : List Int} (h : Ints H s l) (k : Keeps H H') : Ints H' s l := SlR.keeps h k
theorem chainR_ser {l : List Dd} {S : List Nat} (h : ChainR l S) : Ser l S := fun t k hk => by
  obtain ⟨⟨h1, d, hd, hn, _⟩, _⟩ := h t k hk
  exact ⟨h1, d, hd, hn⟩
/-- why there is none. -/
def Stuck (l : List Dd) : Prop := ¬ NoSelf l ∨ NoSelf l ∧ ∃ S : List Nat, S.length < l.length ∧ Chain (Ahd l) l.length S ∧ ∀ k, ¬ Pick (Ahd l) l.length S k
theorem Stuck.no {l : List Dd} (h : Hist l) (hs : Stuck l) {S : List Nat} (hS : Ser l S) (hl : S.length = l.length) : False := by
  rcases hs with hn | ⟨_, T, hT, _, hno⟩
  · apply hn
    intro d hd
    obtain ⟨i, hi, rfl⟩ := List.getElem_of_mem hd
    obtain ⟨t, ht, hti⟩ := List.getElem_of_mem (all_of_nodup hS.nodup hS.lt hl i hi)
    exact hS.noSelf h (i := i) (by rw [List.getElem?_eq_getElem ht, hti]) (List.getElem?_eq_getElem hi)
  · obtain ⟨k, hk⟩ := hS.some_pick h hl hT
    exact hno k hk
theorem stuck_val {l l' : List Dd} (h : l'.map Dd.val = l.map Dd.val) (hs : Stuck l') : Stuck l := by
  unfold Stuck at hs ⊢
  rw [ahd_val h, val_len h, noSelf_val_iff h] at hs; exact hs
theorem not_great {l : List Dd} (h : ¬ Great l) : l.length ≤ 40 ∧ ∀ d ∈ l, d.r.length ≤ 30 ∧ d.w.length ≤ 30 := by
  unfold Great at h
  refine ⟨by apply Classical.byContradiction; intro hh; exact h (.inl (by omega)), fun d hd => ?_⟩
  apply Classical.byContradiction
  intro hh
  exact h (.inr ⟨d, hd, by omega⟩)
theorem Own.ints {H0 H : Heap} {s : Sl} {S : List Nat} (h : Own H0 H s 1 (S.map fun x : Nat => [I x])) : Ints H s (S.map fun x : Nat => (x : Int)) := by
  have := h.slR
  unfold Ints
  rw [List.map_map]
  exact this
abbrev Yes : HV → Heap → Prop := fun v _ => v = .bool true

theorem s3_wp {D : HV → List HV → M HV} (hD : ∀ xs, D (.func 19 [] []) xs = s19 noD xs) {H : Heap} {s : Sl} {l : List Dd} (hs : Deeds H s l) (hf : ∀ d ∈ l, DFit d) : wp (s3 D [.sl s]) Yes H := by
  unfold s3
  refine wp_fin (wp_uL (wp_nl ?_))
  refine wp_bnd (s8_wp hD fun H1 k1 => wp_asB (wp_cond (fun c => by simp at c) (fun _ => ?_)))
  have hs1 := hs.keeps k1
  refine wp_bnd (s9_wp hs1 fun b hb => wp_asB (wp_cond (fun c => wp_ret rfl) (fun c => ?_)))
  obtain ⟨hl, hd⟩ := not_great (l := l) fun hh => by have := hb.2 hh; rw [c] at this; cases this
  refine wp_bnd (s11_wp hs1 (by omega) (fun d hdd => by have := hd d hdd; omega) fun s' H2 l' hm hv => wp_asSl ?_)
  have k2 := k1.trans hm.own.keeps
  have hlen := val_len hv
  have h12 : ∀ {H3 : Heap}, Keeps H2 H3 → ∀ {Q : HV → Heap → Prop}, (∀ x : Bool, (x = true ↔ CanP l) → Q (.bool x) H3) → wp (s12 D [.sl s]) Q H3 := fun k3 _ hQ =>
    s12_wp (hs.keeps (k2.trans k3)) (by omega) (fun d hdd => by have := hd d hdd; omega) (fun x hx => hQ x (hx.trans (can_iff l)))
  refine wp_bnd (s10_wp hm.deeds (fit_val hv hf) hD (fun hh => by omega) (fun _ hnc => ?_) (fun _ hc H3 k3 hst => ?_) (fun _ hc hns S s2 H3 hS hch ho => ?_))
  · refine wp_asT (wp_uL (wp_uI (wp_nl (wp_bnd (h12 (Keeps.refl _) fun x hx => wp_asB (wp_cond (fun c2 => ?_) (fun c2 => ?_)))))))
    · refine wp_jn (wp.mono (Q := fun lf _ => lf = .norm [.bool true]) (wp_cond (fun _ => wp_ret rfl) (fun c3 => by simp at c3)) ?_)
      rintro _ H4 rfl
      exact wp_uB (wp_nl (wp_ret rfl))
    · have : x = true := by simpa using c2
      exact absurd ((can_val_iff hv).2 (hx.1 this)) hnc
  · have hcl := (can_val_iff hv).1 hc
    have hh : Hist l := ⟨hcl⟩
    have hst' : Stuck l := stuck_val hv hst
    refine wp_asT (wp_uL (wp_uI (wp_nl (wp_bnd (h12 k3 fun x hx => wp_asB (wp_cond (fun c2 => ?_) (fun _ => ?_)))))))
    · have := hx.2 hcl; subst this; cases c2
    · refine wp_bnd (s13_wp (hs.keeps (k2.trans k3)) (by omega) hh (fun S s3 H4 hS hch _ => ?_) (fun S H4 _ _ _ _ => ?_))
      · exact absurd (hst'.no hh (chainR_ser hch) hS) id
      · refine wp_asT (wp_uL (wp_uB (wp_nl (wp_cond (fun _ => ?_) (fun c3 => by cases c3)))))
        refine wp_jn (wp.mono (Q := fun lf _ => lf = .norm [.bool true]) (wp_cond (fun _ => wp_ret rfl) (fun c3 => by simp at c3)) ?_)
        rintro _ H5 rfl
        exact wp_uB (wp_nl (wp_ret rfl))
  · have hcl := (can_val_iff hv).1 hc
    have hh : Hist l := ⟨hcl⟩
    have hnsl := (noSelf_val_iff hv).1 hns
    rw [ahd_val hv, hlen] at hch
    rw [hlen] at hS
    have hchR := (chain_iff hh hnsl).1 hch
    refine wp_asT (wp_uL (wp_uI (wp_nl (wp_bnd (h12 ho.keeps fun x hx => wp_asB (wp_cond (fun c2 => ?_) (fun _ => ?_)))))))
    · have := hx.2 hcl; subst this; cases c2
    · refine wp_bnd (s13_wp (hs.keeps (k2.trans ho.keeps)) (by omega) hh (fun T s3 H4 hT hchT ho2 => ?_) (fun T H4 hT hchT hno _ => ?_))
      · have hST : S = T := by
          have := pick_unique hchR hchT S.length (Nat.le_refl _) (by omega)
          rw [List.take_length, hS, ← hT, List.take_length] at this
          exact this
        subst hST
        have i1 : Ints H4 s2 (S.map fun x : Nat => (x : Int)) := Ints.keeps ho.ints ho2.keeps
        have i2 : Ints H4 s3 (S.map fun x : Nat => (x : Int)) := ho2.ints
        have l1 : s2.len = S.length := by rw [i1.len]; simp
        have l2 : s3.len = S.length := by rw [i2.len]; simp
        refine wp_asT (wp_uL (wp_uB (wp_nl (wp_cond (fun c3 => by cases c3) (fun _ => ?_)))))
        refine wp_jn (wp.mono (Q := fun lf H' => lf = .norm [.bool false] ∧ H' = H4) (wp_cond (fun c3 => by rw [l1, l2] at c3; simp at c3) (fun c3 => wp_ret ⟨rfl, rfl⟩)) ?_)
        rintro _ H4 ⟨rfl, rfl⟩
        refine wp_uB (wp_nl (wp_cond (fun c3 => by cases c3) (fun _ => ?_)))
        refine wp_blk ?_
        refine wp_range (σ := Unit) S.length (fun i _ => [I i]) (fun i _ H' => H' = H4) () rfl rfl ?_ ?_
        · rintro i _ H' hi rfl
          have hi' : i < (S.map fun x : Nat => (x : Int)).length := by simpa using hi
          refine wp_uI (wp_nl (wp_cond (fun _ => ?_) (fun hc => ?_)))
          · refine wp_ixC i1 (by omega) (i1.at hi') (fun _ _ => wp_asI ?_)
            refine wp_ixC i2 (by omega) (i2.at hi') (fun _ _ => wp_asI ?_)
            refine wp_cond (fun c3 => by simp at c3) (fun _ => wp_ret ⟨(), by rw [wr_succ hi' i1.lt], rfl⟩)
          · rw [l1] at hc; simp at hc; omega
        · rintro _ H' rfl
          refine wp_uI (wp_nl (wp_cond (fun hc => ?_) (fun _ => wp_ret ?_)))
          · rw [l1] at hc; simp at hc
          · exact wp_nl (wp_ret rfl)
      · have hTl := hT
        have hchT' := (chain_iff hh hnsl).2 hchT
        obtain ⟨k, hk⟩ := (chainR_ser hchR).some_pick hh hS hTl
        have hi := chain_inv hh hnsl hchT' T.length (Nat.le_refl _)
        rw [List.take_length] at hi
        exact absurd ((pick_iff hh hnsl hi k).1 hk) (hno k)

theorem s4_wp {D : HV → List HV → M HV} (hD : ∀ xs, D (.func 19 [] []) xs = s19 noD xs) {H : Heap} {s s2 : Sl} {l : List Dd} {o : List Int} (hs : Deeds H s l) (ho : Ints H s2 o) : wp (s4 D [.sl s, .sl s2]) Yes H := by
  unfold s4
  refine wp_fin (wp_uL (wp_uL (wp_nl ?_)))
  refine wp_bnd (s8_wp hD fun H1 k1 => wp_asB (wp_cond (fun c => by simp at c) (fun _ => ?_)))
  have hs1 := hs.keeps k1
  have ho1 := ho.keeps k1
  refine wp_jn (wp.mono (Q := LB (Great l ∨ 80 < o.length) H1) ?_ ?_)
  · refine wp_bnd (s9_wp hs1 fun b hb => wp_asB (wp_cond (fun c => wp_ret (.mk _ ⟨fun _ => .inl (hb.1 c), fun _ => rfl⟩)) (fun c => wp_ret (.mk _ ?_))))
    rw [ho.len]
    constructor
    · intro h; simp at h; exact .inr (by omega)
    · rintro (h | h)
      · have := hb.2 h; rw [c] at this; cases this
      · simp; omega
  rintro _ H1' ⟨x, rfl, hx, rfl⟩
  refine wp_uB (wp_nl (wp_cond (fun _ => wp_ret rfl) (fun c => ?_)))
  have hng : ¬ (Great l ∨ 80 < o.length) := fun hh => by have := hx.2 hh; rw [c] at this; cases this
  obtain ⟨hl, hd⟩ := not_great (l := l) fun hh => hng (.inl hh)
  refine wp_jn (wp.mono (Q := LB (CanP l ∧ ReplaysP l o) H1') ?_ ?_)
  · refine wp_bnd (s12_wp hs1 (by omega) (fun d hdd => by have := hd d hdd; omega) (fun x hx => wp_asB (wp_cond (fun c2 => ?_) (fun c2 => wp_ret (.mk _ ?_)))))
    · have hcl := (can_iff l).1 (hx.1 c2)
      refine wp_bnd (s14_wp hs1 ho1 ⟨hcl⟩ fun z hz => wp_asB (wp_ret (.mk _ ?_)))
      rw [hz]; exact ⟨fun h => ⟨hcl, h⟩, fun h => h.2⟩
    · refine ⟨fun h => (by cases h), fun h => ?_⟩
      have := hx.2 ((can_iff l).2 h.1); rw [c2] at this; cases this
  rintro _ H1'' ⟨z, rfl, hz, rfl⟩
  refine wp_uB (wp_nl ?_)
  refine wp_bnd (s11_wp hs1 (by omega) (fun d hdd => by have := hd d hdd; omega) fun s' H2 l' hm hv => wp_asSl ?_)
  refine wp_bnd (s15_wp hm.deeds (ho1.keeps hm.own.keeps) fun w H3 _ hw => wp_asB (wp_ret ?_))
  rw [val_len hv, can_val_iff hv, replays_val hv] at hw
  have : w = z := by
    rw [Bool.eq_iff_iff, hw, hz]
    exact ⟨fun h => h.2, fun h => ⟨by omega, h⟩⟩
  rw [this]
  show HV.bool (z == z) = .bool true
  simp

theorem s5_wp {D : HV → List HV → M HV} (hD : ∀ xs, D (.func 19 [] []) xs = s19 noD xs) {H : Heap} {s s2 : Sl} {l : List Dd} {o : List Int} (hs : Deeds H s l) (hf : ∀ d ∈ l, DFit d) (ho : Ints H s2 o) : wp (s5 D [.sl s, .sl s2]) Yes H := by
  unfold s5
  refine wp_fin (wp_uL (wp_uL (wp_nl ?_)))
  refine wp_bnd (s8_wp hD fun H1 k1 => wp_asB (wp_cond (fun c => by simp at c) (fun _ => ?_)))
  have hs1 := hs.keeps k1
  have ho1 := ho.keeps k1
  refine wp_jn (wp.mono (Q := LB (Great l ∨ 80 < o.length) H1) ?_ ?_)
  · refine wp_bnd (s9_wp hs1 fun b hb => wp_asB (wp_cond (fun c => wp_ret (.mk _ ⟨fun _ => .inl (hb.1 c), fun _ => rfl⟩)) (fun c => wp_ret (.mk _ ?_))))
    rw [ho.len]
    constructor
    · intro h; simp at h; exact .inr (by omega)
    · rintro (h | h)
      · have := hb.2 h; rw [c] at this; cases this
      · simp; omega
  rintro _ H1' ⟨x, rfl, hx, rfl⟩
  refine wp_uB (wp_nl (wp_cond (fun _ => wp_ret rfl) (fun c => ?_)))
  have hng : ¬ (Great l ∨ 80 < o.length) := fun hh => by have := hx.2 hh; rw [c] at this; cases this
  obtain ⟨hl, hd⟩ := not_great (l := l) fun hh => hng (.inl hh)
  refine wp_bnd (s11_wp hs1 (by omega) (fun d hdd => by have := hd d hdd; omega) fun s' H2 l' hm hv => wp_asSl ?_)
  have hlen := val_len hv
  have k2 := hm.own.keeps
  have h12 : ∀ {H3 : Heap}, Keeps H2 H3 → ∀ {Q : HV → Heap → Prop}, (∀ x : Bool, (x = true ↔ CanP l) → Q (.bool x) H3) → wp (s12 D [.sl s]) Q H3 := fun k3 _ hQ =>
    s12_wp (hs1.keeps (k2.trans k3)) (by omega) (fun d hdd => by have := hd d hdd; omega) (fun x hx => hQ x (hx.trans (can_iff l)))
  refine wp_bnd (s10_wp hm.deeds (fit_val hv hf) hD (fun hh => by omega) (fun _ hnc => ?_) (fun _ hc H3 k3 hst => ?_) (fun _ hc hns S s2 H3 hS hch ho => ?_))
  · refine wp_asT (wp_uL (wp_uI (wp_nl (wp_cond (fun c2 => by cases c2) (fun _ => ?_)))))
    refine wp_bnd (h12 (Keeps.refl _) fun x hx => wp_asB (wp_cond (fun c2 => ?_) (fun c2 => ?_)))
    · refine wp_jn (wp.mono (Q := fun lf _ => lf = .norm [.bool true]) ?_ ?_)
      · refine wp_cond (fun _ => ?_) (fun c3 => by cases c3)
        refine wp_bnd (s15_wp hm.deeds (ho1.keeps k2) fun w H3 _ hw => wp_asB (wp_ret ?_))
        have : w = false := by
          cases w
          · rfl
          · exact absurd (hw.1 rfl).2.1 hnc
        rw [this]; rfl
      · rintro _ H4 rfl
        exact wp_uB (wp_nl (wp_ret rfl))
    · have : x = true := by simpa using c2
      exact absurd ((can_val_iff hv).2 (hx.1 this)) hnc
  · have hcl := (can_val_iff hv).1 hc
    have hh : Hist l := ⟨hcl⟩
    have hst' : Stuck l := stuck_val hv hst
    have nor : ¬ ReplaysP l o := by
      rintro ⟨h1, S, rfl, h3⟩
      exact hst'.no hh h3 (by simpa using h1)
    refine wp_asT (wp_uL (wp_uI (wp_nl (wp_cond (fun c2 => by cases c2) (fun _ => ?_)))))
    refine wp_bnd (h12 k3 fun x hx => wp_asB (wp_cond (fun c2 => ?_) (fun _ => ?_)))
    · have := hx.2 hcl; subst this; cases c2
    · refine wp_jn (wp.mono (Q := fun lf _ => lf = .norm [.bool true]) ?_ ?_)
      · refine wp_cond (fun _ => ?_) (fun c3 => by cases c3)
        refine wp_bnd (s15_wp (hm.deeds.keeps k3) (ho1.keeps (k2.trans k3)) fun w H4 k4 hw => wp_asB ?_)
        have : w = false := by
          cases w
          · rfl
          · exact absurd ((replays_val hv o).1 (hw.1 rfl).2.2) nor
        rw [this]
        refine wp_cond (fun _ => ?_) (fun c3 => by cases c3)
        refine wp_bnd (s14_wp (hs1.keeps ((k2.trans k3).trans k4)) (ho1.keeps ((k2.trans k3).trans k4)) hh fun z hz => wp_asB (wp_ret ?_))
        have : z = false := by
          cases z
          · rfl
          · exact absurd (hz.1 rfl) nor
        rw [this]; rfl
      · rintro _ H4 rfl
        exact wp_uB (wp_nl (wp_ret rfl))
  · refine wp_asT (wp_uL (wp_uI (wp_nl (wp_cond (fun _ => ?_) (fun c2 => by cases c2)))))
    have hh : Hist l' := ⟨hc⟩
    refine wp_bnd (s15_wp (hm.deeds.keeps ho.keeps) ho.ints fun w H4 k4 hw => wp_asB (wp_ret ?_))
    have : w = true := hw.2 ⟨by omega, hc, by simpa using hS, S, rfl, chain_ser hh hns hch⟩
    rw [this]

theorem s6_wp {D : HV → List HV → M HV} (hD : ∀ xs, D (.func 19 [] []) xs = s19 noD xs) {H : Heap} {s s2 : Sl} {l : List Dd} {o : List Int} (hs : Deeds H s l) (hf : ∀ d ∈ l, DFit d) (ho : Ints H s2 o) : wp (s6 D [.sl s, .sl s2]) Yes H := by
  unfold s6
  refine wp_fin (wp_uL (wp_uL (wp_nl ?_)))
  refine wp_bnd (s8_wp hD fun H1 k1 => wp_asB (wp_cond (fun c => by simp at c) (fun _ => ?_)))
  have hs1 := hs.keeps k1
  have ho1 := ho.keeps k1
  refine wp_jn (wp.mono (Q := fun lf H' => H' = H1 ∧ ∃ b : Bool, lf = .norm [.bool b] ∧ (b = false → ¬ Great l ∧ CanP l ∧ ReplaysP l o)) ?_ ?_)
  · refine wp_bnd (s9_wp hs1 fun b hb => wp_asB (wp_cond (fun c => wp_ret ⟨rfl, true, rfl, fun h => by cases h⟩) (fun c => wp_cond (fun _ => wp_ret ⟨rfl, true, rfl, fun h => by cases h⟩) (fun _ => ?_))))
    have hng : ¬ Great l := fun hh => by have := hb.2 hh; rw [c] at this; cases this
    obtain ⟨hl, hd⟩ := not_great hng
    refine wp_bnd (s12_wp hs1 (by omega) (fun d hdd => by have := hd d hdd; omega) (fun x hx => wp_asB (wp_cond (fun c2 => wp_ret ⟨rfl, true, rfl, fun h => by cases h⟩) (fun c2 => ?_))))
    have hcl := (can_iff l).1 (hx.1 (by simpa using c2))
    refine wp_bnd (s14_wp hs1 ho1 ⟨hcl⟩ fun z hz => wp_asB (wp_ret ⟨rfl, !z, rfl, fun h => ⟨hng, hcl, hz.1 (by simpa using h)⟩⟩))
  rintro _ _ ⟨rfl, x, rfl, hx⟩
  refine wp_uB (wp_nl (wp_cond (fun _ => wp_ret rfl) (fun c => ?_)))
  obtain ⟨hng, hcl, hrp⟩ := hx c
  obtain ⟨hl, hd⟩ := not_great hng
  have hh : Hist l := ⟨hcl⟩
  obtain ⟨hol, T, rfl, hT⟩ := hrp
  have hTl : T.length = l.length := by simpa using hol
  refine wp_bnd (s11_wp hs1 (by omega) (fun d hdd => by have := hd d hdd; omega) fun s' H2 l' hm hv => wp_asSl ?_)
  have hlen := val_len hv
  have k2 := hm.own.keeps
  refine wp_bnd (s10_wp hm.deeds (fit_val hv hf) hD (fun hh => by omega) (fun _ hnc => absurd ((can_val_iff hv).2 hcl) hnc) (fun _ hc H3 k3 hst => ?_) (fun _ hc hns S s3 H3 hS hch ho2 => ?_))
  · exact absurd ((stuck_val hv hst).no hh hT hTl) id
  · have hnsl := (noSelf_val_iff hv).1 hns
    rw [ahd_val hv, hlen] at hch
    rw [hlen] at hS
    have i1 : Ints H3 s3 (S.map fun x : Nat => (x : Int)) := ho2.ints
    have i2 : Ints H3 s2 (T.map fun x : Nat => (x : Int)) := ho1.keeps (k2.trans ho2.keeps)
    have l1 : s3.len = S.length := by rw [i1.len]; simp
    have l2 : s2.len = T.length := by rw [i2.len]; simp
    refine wp_asT (wp_uL (wp_uI (wp_nl ?_)))
    refine wp_jn (wp.mono (Q := fun lf H' => lf = .norm [.bool false] ∧ H' = H3) (wp_cond (fun c3 => by cases c3) (fun c3 => wp_ret ⟨by rw [l1, l2, hS, hTl]; simp, rfl⟩)) ?_)
    rintro _ H3 ⟨rfl, rfl⟩
    refine wp_uB (wp_nl (wp_cond (fun c3 => by cases c3) (fun _ => ?_)))
    refine wp_blk ?_
    refine wp_range (σ := Unit) S.length (fun i _ => [I i]) (fun i _ H' => H' = H3 ∧ S.take i = T.take i) () rfl ⟨rfl, by simp⟩ ?_ ?_
    · rintro i _ H' hi ⟨rfl, heq⟩
      have hi' : i < (S.map fun x : Nat => (x : Int)).length := by simpa using hi
      have hiT : i < T.length := by omega
      have hi2 : i < (T.map fun x : Nat => (x : Int)).length := by simpa using hiT
      have g1 : (S.map fun x : Nat => (x : Int))[i] = (S[i] : Int) := by simp
      have g2 : (T.map fun x : Nat => (x : Int))[i] = (T[i] : Int) := by simp
      have a1 := i1.at hi'
      have a2 := i2.at hi2
      rw [g1] at a1
      rw [g2] at a2
      refine wp_uI (wp_nl (wp_cond (fun _ => ?_) (fun hc => ?_)))
      · refine wp_ixC i1 (by omega) a1 (fun _ _ => wp_asI ?_)
        refine wp_ixC i2 (by omega) a2 (fun _ _ => wp_asI ?_)
        refine wp_cond (fun c3 => ?_) (fun c3 => wp_ret ⟨(), by rw [wr_succ hi' i1.lt], rfl, ?_⟩)
        · refine wp_ixC i1 (by omega) a1 (fun _ _ => wp_asI ?_)
          refine wp_ixC i2 (by omega) a2 (fun _ _ => wp_asI (wp_ret ?_))
          have hne : S[i] ≠ T[i] := by simp at c3; omega
          have hpk : Pick (Ahd l) l.length (S.take i) T[i] := by
            rw [heq]
            refine hT.pick hh hTl (List.getElem?_eq_getElem hiT) ?_ ?_
            · exact (hT i _ (List.getElem?_eq_getElem hiT)).1
            · intro u j hu huj
              have hul : u < T.length := by omega
              rw [List.getElem?_eq_getElem hul] at huj
              rw [List.mem_take_iff_getElem]
              exact ⟨u, by omega, Option.some.inj huj⟩
          have hmin := (hch i _ (List.getElem?_eq_getElem hi)).2
          have : S[i] < T[i] := by
            rcases Nat.lt_trichotomy S[i] T[i] with h | h | h
            · exact h
            · exact absurd h hne
            · exact absurd hpk (hmin _ h)
          show HV.bool (decide ((S[i] : Int) < (T[i] : Int))) = .bool true
          rw [decide_eq_true (by omega)]
        · rw [List.take_succ_eq_append_getElem hi, List.take_succ_eq_append_getElem hiT, heq]
          have : S[i] = T[i] := by simp at c3; omega
          rw [this]
      · rw [l1] at hc; simp at hc; omega
    · rintro _ H' ⟨rfl, _⟩
      refine wp_uI (wp_nl (wp_cond (fun hc => ?_) (fun _ => wp_ret ?_)))
      · rw [l1] at hc; simp at hc
      · exact wp_nl (wp_ret rfl)
end Go.Proofs.Ythlfemjbeihmbaa.HL
