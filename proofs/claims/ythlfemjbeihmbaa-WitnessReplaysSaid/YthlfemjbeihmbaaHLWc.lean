/- What the functions of the law's texts compute: what is made. Conditions: none (lemmas). -/
import Derived.Test.YthlfemjbeihmbaaHLWb
import Derived.Test.YthlfemjbeihmbaaHLMb
namespace Go.Proofs.Ythlfemjbeihmbaa.HL
open Go

def Ints (H : Heap) (s : Sl) (l : List Int) : Prop := SlR H s 1 (l.map fun x => [I x])
theorem Ints.len {H : Heap} {s : Sl} {l : List Int} (h : Ints H s l) : s.len = l.length := by have := SlR.len h; simpa using this
theorem Ints.lt {H : Heap} {s : Sl} {l : List Int} (h : Ints H s l) : l.length ≤ 9223372036854775807 := by have := SlR.lt h; simpa using this
theorem Ints.at {H : Heap} {s : Sl} {l : List Int} (_ : Ints H s l) {i : Nat} (hi : i < l.length) : (l.map fun x => [I x])[((i : Nat) : Int).toNat]? = some [I l[i]] := by simp [hi]

theorem s30_wp {D : HV → List HV → M HV} {H : Heap} {Q : HV → Heap → Prop} {s : Sl} {l : List Int} (hs : Ints H s l) (x : Int)
    (h : ∀ n : Int, (n = -1 ∧ x ∉ l) ∨ (∃ i : Nat, n = i ∧ l[i]? = some x ∧ ∀ j, j < i → l[j]? ≠ some x) → Q (I n) H) : wp (s30 D [.sl s, I x]) Q H := by
  unfold s30
  refine wp_fin (wp_uL (wp_uI (wp_nl ?_)))
  refine wp_blk ?_
  refine wp_range (σ := Unit) l.length (fun i _ => [I i]) (fun i _ H' => H' = H ∧ ∀ j, j < i → l[j]? ≠ some x) () rfl ⟨rfl, fun j hj => by omega⟩ ?_ ?_
  · rintro i _ H' hi ⟨rfl, hno⟩
    refine wp_uI (wp_nl (wp_cond (fun _ => ?_) (fun hc => ?_)))
    · refine wp_ixC hs (by omega) (hs.at hi) (fun _ _ => wp_asI ?_)
      refine wp_cond (fun c => wp_ret ?_) (fun c => wp_ret ?_)
      · refine h i (.inr ⟨i, rfl, ?_, hno⟩)
        rw [List.getElem?_eq_getElem hi]; simp at c; rw [c]
      · refine ⟨(), by rw [wr_succ hi hs.lt], rfl, fun j hj => ?_⟩
        by_cases hji : j = i
        · subst hji; rw [List.getElem?_eq_getElem hi]; simp at c; intro hh; cases hh; exact c rfl
        · exact hno j (by omega)
    · rw [hs.len] at hc; simp at hc; omega
  · rintro _ H' ⟨rfl, hno⟩
    refine wp_uI (wp_nl (wp_cond (fun hc => ?_) (fun _ => wp_ret ?_)))
    · rw [hs.len] at hc; simp at hc
    · refine wp_nl (wp_ret (h (-1) (.inl ⟨rfl, fun hm => ?_⟩)))
      obtain ⟨j, hj, he⟩ := List.getElem_of_mem hm
      exact hno j hj (by rw [List.getElem?_eq_getElem hj, he])

theorem s20_wp {D : HV → List HV → M HV} {H : Heap} {Q : HV → Heap → Prop} {s : Sl} {l : List En} (hs : Ents H s l) (hl : l.length ≤ 1000) (h : ∀ s' H', Own H H' s' 3 (l.map En.cs) → Q (.sl s') H') : wp (s20 D [.sl s]) Q H := by
  unfold s20
  refine wp_fin (wp_uL (wp_nl ?_))
  refine wp_blk ?_
  refine wp_range (σ := Sl) l.length (fun i x => [.sl x, I i]) (fun i x H' => Own H H' x 3 ((l.take i).map En.cs)) ⟨none, 0, 0, none⟩ rfl (Own.nil (Keeps.refl H) 3) ?_ ?_
  · rintro i x H' hi ho
    have hs' : Ents H' s l := SlR.keeps hs ho.keeps
    refine wp_uL (wp_uI (wp_nl (wp_cond (fun _ => ?_) (fun hc => ?_))))
    · refine wp_ixN hs' (by omega) (hs'.at hi) (fun _ _ => wp_uI (wp_uI (wp_uI (wp_nl ?_))))
      refine wp_apd ho (l := (l[i]).cs) rfl (by omega) (by simp only [List.length_map, List.length_take, room]; omega) (by simp only [List.length_map, List.length_take, room]; omega) ?_
      intro s' H2 ho2 _ _ _
      refine wp_ret ⟨s', by rw [wr_succ hi hs.lt], ?_⟩
      show Own H H2 s' 3 ((l.take (i + 1)).map En.cs)
      rw [List.take_succ_eq_append_getElem hi, List.map_append]
      exact ho2
    · rw [hs.len] at hc; simp at hc; omega
  · rintro x H' ho
    refine wp_uL (wp_uI (wp_nl (wp_cond (fun hc => ?_) (fun _ => wp_ret ?_))))
    · rw [hs.len] at hc; simp at hc
    · refine wp_uL (wp_nl (wp_ret (h x H' ?_)))
      rw [List.take_length] at ho; exact ho

/-- more than is played? -/
def Great (l : List Dd) : Prop := 40 < l.length ∨ ∃ d ∈ l, 30 < d.r.length ∨ 30 < d.w.length
theorem s9_wp {D : HV → List HV → M HV} {H : Heap} {Q : HV → Heap → Prop} {s : Sl} {l : List Dd} (hs : Deeds H s l) (h : ∀ b : Bool, (b = true ↔ Great l) → Q (.bool b) H) : wp (s9 D [.sl s]) Q H := by
  unfold s9
  refine wp_fin (wp_uL (wp_nl (wp_cond (fun h1 => ?_) (fun h1 => ?_))))
  · refine wp_ret (h true ⟨fun _ => .inl ?_, fun _ => rfl⟩)
    rw [hs.len] at h1; simp at h1; omega
  · rw [hs.len] at h1
    have h40 : l.length ≤ 40 := by simp at h1; omega
    refine wp_blk ?_
    refine wp_range (σ := Unit) l.length (fun i _ => [I i]) (fun i _ H' => H' = H ∧ ∀ (j : Nat) (d : Dd), j < i → l[j]? = some d → d.r.length ≤ 30 ∧ d.w.length ≤ 30) () rfl ⟨rfl, fun j d hj => by omega⟩ ?_ ?_
    · rintro i _ H' hi ⟨rfl, hno⟩
      have lr : (l[i]).rs.len = (l[i]).r.length := (hs.r hi).len
      have lw : (l[i]).ws.len = (l[i]).w.length := (hs.w hi).len
      refine wp_uI (wp_nl (wp_cond (fun _ => ?_) (fun hc => ?_)))
      · refine wp_ixN hs.sl (by omega) (hs.at hi) (fun _ _ => wp_uL (wp_uL (wp_nl ?_)))
        refine wp_jn (wp.mono (Q := LB (30 < (l[i]).r.length ∨ 30 < (l[i]).w.length) H') ?_ ?_)
        · refine wp_cond (fun c1 => wp_ret (.mk _ ?_)) fun c1 => wp_ret (.mk _ ?_)
          · rw [lr] at c1; simp at c1; exact ⟨fun _ => .inl (by omega), fun _ => rfl⟩
          · rw [lr] at c1; rw [lw]; simp at c1 ⊢; omega
        · rintro _ H3 ⟨b, rfl, hb, rfl⟩
          refine wp_uB (wp_nl (wp_cond (fun c => wp_ret (h true ⟨fun _ => .inr ⟨_, List.getElem_mem hi, hb.1 c⟩, fun _ => rfl⟩)) (fun c => wp_ret ?_)))
          refine ⟨(), by rw [wr_succ hi hs.lt], rfl, fun j d hj hjd => ?_⟩
          by_cases hji : j = i
          · subst hji; rw [List.getElem?_eq_getElem hi] at hjd; cases hjd
            have : ¬ (30 < (l[j]).r.length ∨ 30 < (l[j]).w.length) := fun hh => by have := hb.2 hh; rw [c] at this; cases this
            omega
          · exact hno j d (by omega) hjd
      · rw [hs.len] at hc; simp at hc; omega
    · rintro _ H' ⟨rfl, hno⟩
      refine wp_uI (wp_nl (wp_cond (fun hc => ?_) (fun _ => wp_ret ?_)))
      · rw [hs.len] at hc; simp at hc
      · refine wp_nl (wp_ret (h false ⟨fun hh => (by cases hh), ?_⟩))
        rintro (hh | ⟨d, hd, hh⟩)
        · omega
        · obtain ⟨j, hj, rfl⟩ := List.getElem_of_mem hd
          have := hno j _ hj (List.getElem?_eq_getElem hj)
          omega

def Dd.val (d : Dd) : List En × List En := (d.r, d.w)
/-- a history that is made anew. -/
structure Made (H0 H : Heap) (s : Sl) (l : List Dd) : Prop where
  own : Own H0 H s 2 (l.map Dd.cs)
  ok : ∀ d ∈ l, Ents H d.rs d.r ∧ Ents H d.ws d.w
  apart : ∀ d ∈ l, d.rs.apart s ∧ d.ws.apart s
theorem Made.deeds {H0 H : Heap} {s : Sl} {l : List Dd} (h : Made H0 H s l) : Deeds H s l := ⟨h.own.slR, h.ok⟩

theorem s11_wp {D : HV → List HV → M HV} {H : Heap} {Q : HV → Heap → Prop} {s : Sl} {l : List Dd} (hs : Deeds H s l) (hl : l.length ≤ 1000) (hd : ∀ d ∈ l, d.r.length ≤ 1000 ∧ d.w.length ≤ 1000)
    (h : ∀ s' H' l', Made H H' s' l' → l'.map Dd.val = l.map Dd.val → Q (.sl s') H') : wp (s11 D [.sl s]) Q H := by
  unfold s11
  refine wp_fin (wp_uL (wp_nl ?_))
  refine wp_blk ?_
  refine wp_range (σ := Sl) l.length (fun i x => [.sl x, I i]) (fun i x H' => ∃ l', Made H H' x l' ∧ l'.map Dd.val = (l.take i).map Dd.val) ⟨none, 0, 0, none⟩ rfl
    ⟨[], ⟨Own.nil (Keeps.refl H) 2, by simp, by simp⟩, by simp⟩ ?_ ?_
  · rintro i x H' hi ⟨l', hm, hv⟩
    have hll : l'.length = i := by have := congrArg List.length hv; simp at this; omega
    refine wp_uL (wp_uI (wp_nl (wp_cond (fun _ => ?_) (fun hc => ?_))))
    · refine wp_ixN (hs.sl.keeps hm.own.keeps) (by omega) (hs.at hi) (fun _ _ => wp_uL (wp_uL (wp_nl ?_)))
      have hdi := hd _ (List.getElem_mem hi)
      refine wp_bnd (s20_wp (SlR.keeps (hs.r hi) hm.own.keeps) hdi.1 ?_)
      intro r1 H1 o1
      refine wp_asSl (wp_bnd (s20_wp (SlR.keeps (hs.w hi) (hm.own.keeps.trans o1.keeps)) hdi.2 ?_))
      intro r2 H2 o2
      have hx2 : Own H H2 x 2 (l'.map Dd.cs) := hm.own.keep (o1.keeps.trans o2.keeps)
      have k2 := o1.keeps.trans o2.keeps
      have e1 : Ents H2 r1 (l[i]).r := SlR.keeps o1.slR o2.keeps
      have e2 : Ents H2 r2 (l[i]).w := o2.slR
      have a1 : r1.apart x := o1.apart_old hm.own
      have a2 : r2.apart x := o2.apart_old (hm.own.keep o1.keeps)
      refine wp_asSl (wp_apd hx2 (l := [.sl r1, .sl r2]) rfl (by omega) (by simp only [List.length_map, hll, room]; omega) (by simp only [List.length_map, hll, room]; omega) ?_)
      intro s' H3 ho3 hk3 hn3 hp3
      have all : ∀ d ∈ l' ++ [⟨r1, r2, (l[i]).r, (l[i]).w⟩], (Ents H2 d.rs d.r ∧ Ents H2 d.ws d.w) ∧ d.rs.apart x ∧ d.ws.apart x := by
        intro d hd
        rcases List.mem_append.1 hd with hd | hd
        · exact ⟨⟨SlR.keeps (hm.ok d hd).1 k2, SlR.keeps (hm.ok d hd).2 k2⟩, hm.apart d hd⟩
        · simp at hd; subst hd; exact ⟨⟨e1, e2⟩, a1, a2⟩
      refine wp_ret ⟨s', by rw [wr_succ hi hs.lt], l' ++ [⟨r1, r2, (l[i]).r, (l[i]).w⟩], ⟨?_, fun d hd => ?_, fun d hd => ?_⟩, ?_⟩
      · rw [List.map_append]; exact ho3
      · obtain ⟨⟨q1, q2⟩, q3, q4⟩ := all d hd
        exact ⟨SlR.besides q1 q3 hn3 hk3, SlR.besides q2 q4 hn3 hk3⟩
      · obtain ⟨⟨q1, q2⟩, _, _⟩ := all d hd
        exact ⟨SlR.apart_new q1 hp3 (Nat.le_refl _), SlR.apart_new q2 hp3 (Nat.le_refl _)⟩
      · rw [List.take_succ_eq_append_getElem hi, List.map_append, List.map_append, hv]; rfl
    · rw [hs.len] at hc; simp at hc; omega
  · rintro x H' ⟨l', hm, hv⟩
    refine wp_uL (wp_uI (wp_nl (wp_cond (fun hc => ?_) (fun _ => wp_ret ?_))))
    · rw [hs.len] at hc; simp at hc
    · rw [List.take_length] at hv
      exact wp_uL (wp_nl (wp_ret (h x H' l' hm hv)))
end Go.Proofs.Ythlfemjbeihmbaa.HL
