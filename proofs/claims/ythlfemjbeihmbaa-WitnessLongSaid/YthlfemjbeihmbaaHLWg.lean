/- What the functions of the law's texts compute: the reference's search. Conditions: none (lemmas). -/
import Derived.Test.YthlfemjbeihmbaaHLWf
namespace Go.Proofs.Ythlfemjbeihmbaa.HL
open Go

/-- does a deed need an older version of something that another one writes? -/
def Needs (d o : Dd) : Prop := ∃ w ∈ o.w, (∃ e ∈ d.r, alike e w = true ∧ e.v < w.v) ∨ ∃ e ∈ d.w, alike e w = true ∧ e.v < w.v

theorem s24_wp {D : HV → List HV → M HV} {H : Heap} {Q : HV → Heap → Prop} {d o : Dd} (hd : Ents H d.rs d.r ∧ Ents H d.ws d.w) (ho : Ents H o.rs o.r ∧ Ents H o.ws o.w)
    (h : ∀ b : Bool, (b = true ↔ Needs d o) → Q (.bool b) H) : wp (s24 D [.agg d.cs, .agg o.cs]) Q H := by
  unfold s24
  refine wp_fin (wp_uA (wp_uL (wp_uL (wp_nl (wp_uA (wp_uL (wp_uL (wp_nl (wp_nl ?_)))))))))
  refine wp_blk ?_
  have hw := ho.2
  refine wp_range (σ := Unit) o.w.length (fun i _ => [I i]) (fun i _ H' => H' = H ∧ ∀ (j : Nat) (w : En), j < i → o.w[j]? = some w → (∀ e ∈ d.r, ¬ (alike e w = true ∧ e.v < w.v)) ∧ ∀ e ∈ d.w, ¬ (alike e w = true ∧ e.v < w.v)) () rfl ⟨rfl, fun j a hj => by omega⟩ ?_ ?_
  · rintro i _ H' hi ⟨rfl, hno⟩
    refine wp_uI (wp_nl (wp_cond (fun _ => ?_) (fun hc => ?_)))
    · refine wp_ixN hw (by omega) (hw.at hi) (fun _ _ => wp_uI (wp_uI (wp_uI (wp_nl ?_))))
      refine wp_blk ?_
      refine wp_range (σ := Unit) d.r.length (fun j _ => [I j]) (fun j _ H2 => H2 = H' ∧ ∀ (q : Nat) (e : En), q < j → d.r[q]? = some e → ¬ (alike e o.w[i] = true ∧ e.v < (o.w[i]).v)) () rfl ⟨rfl, fun j a hj => by omega⟩ ?_ ?_
      · rintro j _ H2 hj ⟨rfl, hno2⟩
        refine wp_uI (wp_nl (wp_cond (fun _ => ?_) (fun hc => ?_)))
        · refine wp_ixN hd.1 (by omega) (hd.1.at hj) (fun _ _ => wp_uI (wp_uI (wp_uI (wp_nl ?_))))
          refine wp_jn (wp.mono (Q := LB (alike d.r[j] o.w[i] = true ∧ (d.r[j]).v < (o.w[i]).v) H2) ?_ ?_)
          · refine wp_cond (fun c1 => wp_cond (fun c2 => wp_ret (.mk _ ?_)) (fun c2 => wp_ret (.mk _ ?_))) (fun c1 => wp_ret (.mk _ ?_))
            · simp [alike, c1, c2]
            · simp [alike, c1, c2]
            · simp [alike, c1]
          · rintro _ H3 ⟨b, rfl, hb, rfl⟩
            refine wp_uB (wp_nl (wp_cond (fun c => wp_ret (h true ⟨fun _ => ⟨_, List.getElem_mem hi, .inl ⟨_, List.getElem_mem hj, hb.1 c⟩⟩, fun _ => rfl⟩)) (fun c => wp_ret ?_)))
            refine ⟨(), by rw [wr_succ hj hd.1.lt], rfl, fun q b' hq hqb => ?_⟩
            by_cases hqj : q = j
            · subst hqj; rw [List.getElem?_eq_getElem hj] at hqb; cases hqb
              intro hh; have := hb.2 hh; rw [c] at this; cases this
            · exact hno2 q b' (by omega) hqb
        · rw [hd.1.len] at hc; simp at hc; omega
      · rintro _ H2 ⟨rfl, hno2⟩
        refine wp_uI (wp_nl (wp_cond (fun hc => ?_) (fun _ => wp_ret ?_)))
        · rw [hd.1.len] at hc; simp at hc
        refine wp_nl ?_
        refine wp_blk ?_
        refine wp_range (σ := Unit) d.w.length (fun j _ => [I j]) (fun j _ H3 => H3 = H2 ∧ ∀ (q : Nat) (e : En), q < j → d.w[q]? = some e → ¬ (alike e o.w[i] = true ∧ e.v < (o.w[i]).v)) () rfl ⟨rfl, fun j a hj => by omega⟩ ?_ ?_
        · rintro j _ H3 hj ⟨rfl, hno3⟩
          refine wp_uI (wp_nl (wp_cond (fun _ => ?_) (fun hc => ?_)))
          · refine wp_ixN hd.2 (by omega) (hd.2.at hj) (fun _ _ => wp_uI (wp_uI (wp_uI (wp_nl ?_))))
            refine wp_jn (wp.mono (Q := LB (alike d.w[j] o.w[i] = true ∧ (d.w[j]).v < (o.w[i]).v) H3) ?_ ?_)
            · refine wp_cond (fun c1 => wp_cond (fun c2 => wp_ret (.mk _ ?_)) (fun c2 => wp_ret (.mk _ ?_))) (fun c1 => wp_ret (.mk _ ?_))
              · simp [alike, c1, c2]
              · simp [alike, c1, c2]
              · simp [alike, c1]
            · rintro _ H4 ⟨b, rfl, hb, rfl⟩
              refine wp_uB (wp_nl (wp_cond (fun c => wp_ret (h true ⟨fun _ => ⟨_, List.getElem_mem hi, .inr ⟨_, List.getElem_mem hj, hb.1 c⟩⟩, fun _ => rfl⟩)) (fun c => wp_ret ?_)))
              refine ⟨(), by rw [wr_succ hj hd.2.lt], rfl, fun q b' hq hqb => ?_⟩
              by_cases hqj : q = j
              · subst hqj; rw [List.getElem?_eq_getElem hj] at hqb; cases hqb
                intro hh; have := hb.2 hh; rw [c] at this; cases this
              · exact hno3 q b' (by omega) hqb
          · rw [hd.2.len] at hc; simp at hc; omega
        · rintro _ H3 ⟨rfl, hno3⟩
          refine wp_uI (wp_nl (wp_cond (fun hc => ?_) (fun _ => wp_ret ?_)))
          · rw [hd.2.len] at hc; simp at hc
          refine wp_nl (wp_ret ⟨(), by rw [wr_succ hi hw.lt], rfl, fun j w hj hjw => ?_⟩)
          by_cases hji : j = i
          · subst hji; rw [List.getElem?_eq_getElem hi] at hjw; cases hjw
            refine ⟨fun e he => ?_, fun e he => ?_⟩
            · obtain ⟨q, hq, rfl⟩ := List.getElem_of_mem he
              exact hno2 q _ hq (List.getElem?_eq_getElem hq)
            · obtain ⟨q, hq, rfl⟩ := List.getElem_of_mem he
              exact hno3 q _ hq (List.getElem?_eq_getElem hq)
          · exact hno j w (by omega) hjw
    · rw [hw.len] at hc; simp at hc; omega
  · rintro _ H' ⟨rfl, hno⟩
    refine wp_uI (wp_nl (wp_cond (fun hc => ?_) (fun _ => wp_ret ?_)))
    · rw [hw.len] at hc; simp at hc
    · refine wp_nl (wp_ret (h false ⟨fun hh => (by cases hh), ?_⟩))
      rintro ⟨w, hw', hh⟩
      obtain ⟨j, hj, rfl⟩ := List.getElem_of_mem hw'
      obtain ⟨n1, n2⟩ := hno j _ hj (List.getElem?_eq_getElem hj)
      rcases hh with ⟨e, he, hh⟩ | ⟨e, he, hh⟩
      · exact absurd hh (n1 e he)
      · exact absurd hh (n2 e he)
end Go.Proofs.Ythlfemjbeihmbaa.HL
