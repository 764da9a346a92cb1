/- What the functions of the law's texts compute: histories. Conditions: none (lemmas). -/
import Derived.Test.YthlfemjbeihmbaaHLWa
namespace Go.Proofs.Ythlfemjbeihmbaa.HL
open Go

def Fit (l : List En) : Prop := ∀ e ∈ l, e.v ≤ 9223372036854775807
structure DFit (d : Dd) : Prop where
  r : Fit d.r
  w : Fit d.w
/-- must the one come ahead of the other? -/
def Ahead (a b : Dd) : Prop := Younger a.w b.r 0 ∨ Younger a.w b.w 1 ∨ Younger a.r b.w 1

theorem s19_wp {D : HV → List HV → M HV} {H : Heap} {Q : HV → Heap → Prop} {a b : Dd} (ha : Ents H a.rs a.r ∧ Ents H a.ws a.w) (hb : Ents H b.rs b.r ∧ Ents H b.ws b.w) (fb : DFit b)
    (h : ∀ x : Bool, (x = true ↔ Ahead a b) → Q (.bool x) H) : wp (s19 D [.agg a.cs, .agg b.cs]) Q H := by
  unfold s19
  refine wp_fin (wp_uA (wp_uL (wp_uL (wp_nl (wp_uA (wp_uL (wp_uL (wp_nl (wp_nl ?_)))))))))
  refine wp_jn (wp.mono (Q := LB (Ahead a b) H) ?_ ?_)
  · refine wp_bnd (s17_wp ha.2 hb.1 (by omega) fb.r fun x hx => ?_)
    refine wp_asB (wp_cond (fun c => wp_ret (.mk _ ⟨fun _ => .inl (hx.1 c), fun _ => rfl⟩)) (fun c => ?_))
    refine wp_bnd (s17_wp ha.2 hb.2 (by omega) fb.w fun y hy => ?_)
    refine wp_asB (wp_cond (fun c2 => wp_ret (.mk _ ⟨fun _ => .inr (.inl (hy.1 c2)), fun _ => rfl⟩)) (fun c2 => ?_))
    refine wp_bnd (s17_wp ha.1 hb.2 (by omega) fb.w fun z hz => ?_)
    refine wp_asB (wp_ret (.mk _ ⟨fun hh => .inr (.inr (hz.1 hh)), ?_⟩))
    rintro (h1 | h1 | h1)
    · have := hx.2 h1; rw [c] at this; cases this
    · have := hy.2 h1; rw [c2] at this; cases this
    · exact hz.2 h1
  · rintro _ H3 ⟨x, rfl, hx, rfl⟩
    exact wp_uB (wp_nl (wp_ret (h x hx)))

/-- can a history be, as the program tells it? -/
def CanP (l : List Dd) : Prop := (∀ d ∈ l, Single d.r 0 ∧ Single d.w 1) ∧ ∀ d ∈ l, (∀ e ∈ d.w, writersN l e = 1) ∧ ∀ e ∈ d.r, 0 < e.v → writersN l e = 1

theorem s16_wp {D : HV → List HV → M HV} {H : Heap} {Q : HV → Heap → Prop} {s : Sl} {l : List Dd} (hs : Deeds H s l) (h : ∀ x : Bool, (x = true ↔ CanP l) → Q (.bool x) H) : wp (s16 D [.sl s]) Q H := by
  unfold s16
  refine wp_fin (wp_uL (wp_nl ?_))
  refine wp_blk ?_
  refine wp_range (σ := Unit) l.length (fun i _ => [I i]) (fun i _ H' => H' = H ∧ ∀ (j : Nat) (d : Dd), j < i → l[j]? = some d → Single d.r 0 ∧ Single d.w 1) () rfl ⟨rfl, fun j a hj => by omega⟩ ?_ ?_
  · rintro i _ H' hi ⟨rfl, hno⟩
    refine wp_uI (wp_nl (wp_cond (fun _ => ?_) (fun hc => ?_)))
    · refine wp_ixN hs.sl (by omega) (hs.at hi) (fun _ _ => wp_uL (wp_uL (wp_nl ?_)))
      refine wp_jn (wp.mono (Q := LB (¬ (Single (l[i]).r 0 ∧ Single (l[i]).w 1)) H') ?_ ?_)
      · refine wp_bnd (s27_wp (hs.r hi) 0 fun b hb => ?_)
        refine wp_asB (wp_cond (fun c => wp_ret (.mk _ ?_)) (fun c => ?_))
        · have : b = false := by simpa using c
          subst this
          exact ⟨fun _ hh => (by have := hb.2 hh.1; cases this), fun _ => rfl⟩
        · have : b = true := by simpa using c
          have h1 := hb.1 this
          refine wp_bnd (s27_wp (hs.w hi) 1 fun b2 hb2 => ?_)
          refine wp_asB (wp_ret (.mk _ ?_))
          cases b2
          · exact ⟨fun _ hh => (by have := hb2.2 hh.2; cases this), fun _ => rfl⟩
          · exact ⟨fun hh => (by cases hh), fun hh => absurd ⟨h1, hb2.1 rfl⟩ hh⟩
      · rintro _ H3 ⟨b, rfl, hb, rfl⟩
        refine wp_uB (wp_nl (wp_cond (fun c => wp_ret (h false ⟨fun hh => (by cases hh), fun hh => absurd (hh.1 _ (List.getElem_mem hi)) (hb.1 c)⟩)) (fun c => wp_ret ?_)))
        refine ⟨(), by rw [wr_succ hi hs.lt], rfl, fun j d hj hjd => ?_⟩
        by_cases hji : j = i
        · subst hji; rw [List.getElem?_eq_getElem hi] at hjd; cases hjd
          rcases Classical.em (Single (l[j]).r 0 ∧ Single (l[j]).w 1) with hk | hk
          · exact hk
          · have := hb.2 hk; rw [c] at this; cases this
        · exact hno j d (by omega) hjd
    · rw [hs.len] at hc; simp at hc; omega
  · rintro _ H' ⟨rfl, hno⟩
    have hno' : ∀ d ∈ l, Single d.r 0 ∧ Single d.w 1 := fun d hd => by
      obtain ⟨j, hj, rfl⟩ := List.getElem_of_mem hd
      exact hno j _ hj (List.getElem?_eq_getElem hj)
    refine wp_uI (wp_nl (wp_cond (fun hc => ?_) (fun _ => wp_ret ?_)))
    · rw [hs.len] at hc; simp at hc
    refine wp_nl ?_
    refine wp_blk ?_
    refine wp_range (σ := Unit) l.length (fun i _ => [I i]) (fun i _ H2 => H2 = H' ∧ ∀ (j : Nat) (d : Dd), j < i → l[j]? = some d → (∀ e ∈ d.w, writersN l e = 1) ∧ ∀ e ∈ d.r, 0 < e.v → writersN l e = 1) () rfl ⟨rfl, fun j a hj => by omega⟩ ?_ ?_
    · rintro i _ H2 hi ⟨rfl, hall⟩
      refine wp_uI (wp_nl (wp_cond (fun _ => ?_) (fun hc => ?_)))
      · refine wp_ixN hs.sl (by omega) (hs.at hi) (fun _ _ => wp_uL (wp_uL (wp_nl ?_)))
        refine wp_blk ?_
        have hw := hs.w hi
        have hr := hs.r hi
        refine wp_range (σ := Unit) (l[i]).w.length (fun j _ => [I j]) (fun j _ H3 => H3 = H2 ∧ ∀ (q : Nat) (e : En), q < j → (l[i]).w[q]? = some e → writersN l e = 1) () rfl ⟨rfl, fun j a hj => by omega⟩ ?_ ?_
        · rintro j _ H3 hj ⟨rfl, hw1⟩
          refine wp_uI (wp_nl (wp_cond (fun _ => ?_) (fun hc => ?_)))
          · refine wp_ixN hw (by omega) (hw.at hj) (fun _ _ => wp_uI (wp_uI (wp_uI (wp_nl ?_))))
            refine wp_bnd (s28_wp hs (l[i]).w[j] ?_)
            refine wp_asI (wp_cond (fun c => wp_ret (h false ⟨fun hh => (by cases hh), fun hh => ?_⟩)) (fun c => wp_ret ?_))
            · have := (hh.2 _ (List.getElem_mem hi)).1 _ (List.getElem_mem hj)
              rw [this] at c; simp at c
            · refine ⟨(), by rw [wr_succ hj hw.lt], rfl, fun q e hq hqe => ?_⟩
              by_cases hqj : q = j
              · subst hqj; rw [List.getElem?_eq_getElem hj] at hqe; cases hqe
                simp at c; omega
              · exact hw1 q e (by omega) hqe
          · rw [hw.len] at hc; simp at hc; omega
        · rintro _ H3 ⟨rfl, hw1⟩
          refine wp_uI (wp_nl (wp_cond (fun hc => ?_) (fun _ => wp_ret ?_)))
          · rw [hw.len] at hc; simp at hc
          refine wp_nl ?_
          refine wp_blk ?_
          refine wp_range (σ := Unit) (l[i]).r.length (fun j _ => [I j]) (fun j _ H4 => H4 = H3 ∧ ∀ (q : Nat) (e : En), q < j → (l[i]).r[q]? = some e → 0 < e.v → writersN l e = 1) () rfl ⟨rfl, fun j a hj => by omega⟩ ?_ ?_
          · rintro j _ H4 hj ⟨rfl, hr1⟩
            refine wp_uI (wp_nl (wp_cond (fun _ => ?_) (fun hc => ?_)))
            · refine wp_ixN hr (by omega) (hr.at hj) (fun _ _ => wp_uI (wp_uI (wp_uI (wp_nl ?_))))
              refine wp_jn (wp.mono (Q := LB (0 < (l[i]).r[j].v ∧ writersN l (l[i]).r[j] ≠ 1) H4) ?_ ?_)
              · refine wp_cond (fun c => ?_) (fun c => wp_ret (.mk _ ?_))
                · refine wp_bnd (s28_wp hs (l[i]).r[j] ?_)
                  refine wp_asI (wp_ret (.mk _ ?_))
                  simp at c ⊢
                  omega
                · simp at c ⊢
                  omega
              · rintro _ H5 ⟨b, rfl, hb, rfl⟩
                refine wp_uB (wp_nl (wp_cond (fun c => wp_ret (h false ⟨fun hh => (by cases hh), fun hh => ?_⟩)) (fun c => wp_ret ?_)))
                · have h1 := hb.1 c
                  exact absurd ((hh.2 _ (List.getElem_mem hi)).2 _ (List.getElem_mem hj) h1.1) h1.2
                · refine ⟨(), by rw [wr_succ hj hr.lt], rfl, fun q e hq hqe hv => ?_⟩
                  by_cases hqj : q = j
                  · subst hqj; rw [List.getElem?_eq_getElem hj] at hqe; cases hqe
                    rcases Classical.em (writersN l (l[i]).r[q] = 1) with hk | hk
                    · exact hk
                    · have := hb.2 ⟨hv, hk⟩; rw [c] at this; cases this
                  · exact hr1 q e (by omega) hqe hv
            · rw [hr.len] at hc; simp at hc; omega
          · rintro _ H4 ⟨rfl, hr1⟩
            refine wp_uI (wp_nl (wp_cond (fun hc => ?_) (fun _ => wp_ret ?_)))
            · rw [hr.len] at hc; simp at hc
            refine wp_nl (wp_ret ⟨(), by rw [wr_succ hi hs.lt], rfl, fun j d hj hjd => ?_⟩)
            by_cases hji : j = i
            · subst hji; rw [List.getElem?_eq_getElem hi] at hjd; cases hjd
              refine ⟨fun e he => ?_, fun e he hv => ?_⟩
              · obtain ⟨q, hq, rfl⟩ := List.getElem_of_mem he
                exact hw1 q _ hq (List.getElem?_eq_getElem hq)
              · obtain ⟨q, hq, rfl⟩ := List.getElem_of_mem he
                exact hr1 q _ hq (List.getElem?_eq_getElem hq) hv
            · exact hall j d (by omega) hjd
      · rw [hs.len] at hc; simp at hc; omega
    · rintro _ H2 ⟨rfl, hall⟩
      refine wp_uI (wp_nl (wp_cond (fun hc => ?_) (fun _ => wp_ret ?_)))
      · rw [hs.len] at hc; simp at hc
      refine wp_nl (wp_ret (h true ⟨fun _ => ⟨hno', fun d hd => ?_⟩, fun _ => rfl⟩))
      obtain ⟨j, hj, rfl⟩ := List.getElem_of_mem hd
      exact hall j _ hj (List.getElem?_eq_getElem hj)
end Go.Proofs.Ythlfemjbeihmbaa.HL
