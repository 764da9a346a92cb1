/- What the functions of the law's texts compute: the reference's. Conditions: none (lemmas). -/
import Derived.Test.YthlfemjbeihmbaaHLWc
namespace Go.Proofs.Ythlfemjbeihmbaa.HL
open Go

def place (e : En) : Nat := 0 + e.k.toNat * 8 + e.i.toNat * 1
theorem place_lt {least : Int} {e : En} (h : okE least e) : place e < 24 := by unfold okE at h; unfold place; omega
theorem place_alike {l1 l2 : Int} {a b : En} (ha : okE l1 a) (hb : okE l2 b) : place a = place b ↔ alike a b = true := by
  unfold okE at ha hb
  unfold place alike
  simp only [Bool.and_eq_true, beq_iff_eq]
  constructor
  · intro h; omega
  · rintro ⟨h1, h2⟩; rw [h1, h2]

theorem s21_wp {D : HV → List HV → M HV} {H : Heap} {Q : HV → Heap → Prop} {s : Sl} {l : List En} (hs : Ents H s l) (least : Int) (h : ∀ b : Bool, (b = true ↔ Single l least) → Q (.bool b) H) : wp (s21 D [.sl s, I least]) Q H := by
  unfold s21
  refine wp_fin (wp_uL (wp_uI (wp_nl (wp_cond (fun h1 => ?_) (fun h1 => ?_)))))
  · refine wp_ret (h false ⟨fun hh => (by cases hh), fun hh => ?_⟩)
    have := hh.1
    rw [hs.len] at h1; simp at h1; omega
  · rw [hs.len] at h1
    have h24 : l.length ≤ 24 := by simp at h1; omega
    refine wp_blk ?_
    refine wp_range (σ := List HV) l.length (fun i y => [I i, .agg y]) (fun i y H' => H' = H ∧ y.length = 24 ∧ (∀ (j : Nat) (e : En), j < i → l[j]? = some e → okE least e ∧ ∀ (q : Nat), q < j → ∀ (o : En), l[q]? = some o → alike e o = false) ∧
      ∀ p, p < 24 → ∃ b : Bool, y[p]? = some (.bool b) ∧ (b = true ↔ ∃ (q : Nat) (e : En), q < i ∧ l[q]? = some e ∧ place e = p)) (List.replicate 24 (.bool false)) rfl
      ⟨rfl, by simp, fun j e hj => by omega, fun p hp => ⟨false, by rw [List.getElem?_replicate, if_pos hp], ⟨fun hh => (by cases hh), fun ⟨q, e, hq, _⟩ => by omega⟩⟩⟩ ?_ ?_
    · rintro i y H' hi ⟨rfl, hy, hno, hb⟩
      refine wp_uI (wp_uA (wp_nl (wp_cond (fun _ => ?_) (fun hc => ?_))))
      · refine wp_ixN hs (by omega) (hs.at hi) (fun _ _ => wp_uI (wp_uI (wp_uI (wp_nl ?_))))
        refine wp_jn (wp.mono (Q := LB (¬ (okE least l[i] ∧ ∀ (q : Nat), q < i → ∀ (o : En), l[q]? = some o → alike l[i] o = false)) H') ?_ ?_)
        · have bad : ¬ okE least l[i] → (true = true ↔ ¬ (okE least l[i] ∧ ∀ (q : Nat), q < i → ∀ (o : En), l[q]? = some o → alike l[i] o = false)) := fun hn => ⟨fun _ hh => hn hh.1, fun _ => rfl⟩
          refine wp_cond (fun c1 => wp_ret (.mk _ (bad ?_))) fun c1 => wp_cond (fun c2 => wp_ret (.mk _ (bad ?_))) fun c2 => wp_cond (fun c3 => wp_ret (.mk _ (bad ?_))) fun c3 => wp_cond (fun c4 => wp_ret (.mk _ (bad ?_))) fun c4 => wp_cond (fun c5 => wp_ret (.mk _ (bad ?_))) fun c5 => ?_
          all_goals simp only [decide_eq_true_eq, decide_eq_false_iff_not] at *
          · unfold okE; omega
          · unfold okE; omega
          · unfold okE; omega
          · unfold okE; omega
          · unfold okE; omega
          · have hok : okE least l[i] := by unfold okE; omega
            refine wp_gd (by simp; omega) (wp_gd (by simp; omega) (wp_gd (by simp; omega) (wp_gd (by simp; omega) ?_)))
            obtain ⟨b, hb1, hb2⟩ := hb (place l[i]) (place_lt hok)
            unfold place at hb1
            unfold gx
            rw [hb1]
            refine wp_asB (wp_ret (.mk _ ?_))
            rw [hb2]
            constructor
            · rintro ⟨q, e, hq, hqe, hpl⟩ hh
              have h2 := hh.2 q hq e hqe
              have h3 := (place_alike (hno q e hq hqe).1 hok).1 hpl
              unfold alike at h2 h3
              simp at h2 h3
              exact h2 h3.1.symm h3.2.symm
            · intro hh
              apply Classical.byContradiction
              intro hn
              refine hh ⟨hok, fun q hq o ho => ?_⟩
              cases ha : alike l[i] o with
              | false => rfl
              | true =>
                exfalso
                exact hn ⟨q, o, hq, ho, ((place_alike hok (hno q o hq ho).1).2 ha).symm⟩
        · rintro _ H3 ⟨b, rfl, hbb, rfl⟩
          refine wp_uB (wp_nl (wp_cond (fun c => wp_ret (h false ⟨fun hh => (by cases hh), fun hh => absurd (hh.2 i _ (List.getElem?_eq_getElem hi)) (hbb.1 c)⟩)) (fun c => ?_)))
          have hgood : okE least l[i] ∧ ∀ (q : Nat), q < i → ∀ (o : En), l[q]? = some o → alike l[i] o = false := by
            apply Classical.byContradiction
            intro hn; have := hbb.2 hn; rw [c] at this; cases this
          have hok := hgood.1
          have hpl := place_lt hok
          have hok' := hok
          unfold okE at hok'
          refine wp_gd (by simp; omega) (wp_gd (by simp; omega) (wp_gd (by simp; omega) (wp_gd (by simp; omega) (wp_gd (by rw [hy]; unfold place at hpl; simpa using hpl) (wp_ret ?_)))))
          refine ⟨List.set y (place l[i]) (.bool true), by rw [wr_succ hi hs.lt]; rfl, rfl, by simp [hy], fun j e hj hje => ?_, fun p hp => ?_⟩
          · by_cases hji : j = i
            · subst hji; rw [List.getElem?_eq_getElem hi] at hje; cases hje; exact hgood
            · exact hno j e (by omega) hje
          · by_cases hpp : p = place l[i]
            · subst hpp
              exact ⟨true, by rw [List.getElem?_set_self (by omega)], ⟨fun _ => ⟨i, _, by omega, List.getElem?_eq_getElem hi, rfl⟩, fun _ => rfl⟩⟩
            · obtain ⟨b', h1, h2⟩ := hb p hp
              refine ⟨b', by rw [List.getElem?_set_ne (Ne.symm hpp)]; exact h1, ?_⟩
              rw [h2]
              constructor
              · rintro ⟨q, e, hq, hqe, he⟩; exact ⟨q, e, by omega, hqe, he⟩
              · rintro ⟨q, e, hq, hqe, he⟩
                by_cases hqi : q = i
                · subst hqi; rw [List.getElem?_eq_getElem hi] at hqe; cases hqe; exact absurd he.symm hpp
                · exact ⟨q, e, by omega, hqe, he⟩
      · rw [hs.len] at hc; simp at hc; omega
    · rintro y H' ⟨rfl, hy, hno, _⟩
      refine wp_uI (wp_uA (wp_nl (wp_cond (fun hc => ?_) (fun _ => wp_ret ?_))))
      · rw [hs.len] at hc; simp at hc
      · refine wp_uA (wp_nl (wp_ret (h true ⟨fun _ => ⟨h24, fun i e he => hno i e (List.getElem?_eq_some_iff.1 he).1 he⟩, fun _ => rfl⟩)))

/-- how often an entry was written. -/
def wroteN (l : List Dd) (e : En) : Nat := (l.map fun d => d.w.count e).sum
theorem wroteN_succ (l : List Dd) (e : En) {i : Nat} (hi : i < l.length) : wroteN (l.take (i + 1)) e = wroteN (l.take i) e + (l[i]).w.count e := by
  unfold wroteN
  rw [List.take_succ_eq_append_getElem hi, List.map_append, List.sum_append]
  simp
theorem count_take_succ (l : List En) (e : En) {i : Nat} (hi : i < l.length) : (l.take (i + 1)).count e = (l.take i).count e + (if l[i] = e then 1 else 0) := by
  rw [List.take_succ_eq_append_getElem hi, List.count_append]
  simp [List.count_cons]
theorem wroteN_le {l : List Dd} (e : En) (hd : ∀ d ∈ l, d.w.length ≤ 1000) : wroteN l e ≤ l.length * 1000 := by
  induction l with
  | nil => simp [wroteN]
  | cons d l ih =>
    have h1 := ih fun x hx => hd x (List.mem_cons_of_mem _ hx)
    have h2 := hd d List.mem_cons_self
    have h3 : d.w.count e ≤ d.w.length := List.count_le_length
    unfold wroteN at h1 ⊢
    simp only [List.map_cons, List.sum_cons, List.length_cons]
    omega

theorem s22_wp {D : HV → List HV → M HV} {H : Heap} {Q : HV → Heap → Prop} {s : Sl} {l : List Dd} (hs : Deeds H s l) (hl : l.length ≤ 1000) (hd : ∀ d ∈ l, d.w.length ≤ 1000) (e : En) (h : Q (I (wroteN l e)) H) : wp (s22 D [.sl s, .agg e.cs]) Q H := by
  unfold s22
  refine wp_fin (wp_uL (wp_uA (wp_uI (wp_uI (wp_uI (wp_nl (wp_nl ?_)))))))
  refine wp_blk ?_
  refine wp_range (σ := Unit) l.length (fun i _ => [I (wroteN (l.take i) e : Nat), I i]) (fun i _ H' => H' = H) () (by simp [wroteN]) rfl ?_ ?_
  · rintro i _ H' hi rfl
    have hb : wroteN (l.take i) e ≤ 1000000 := by
      have := wroteN_le (l := l.take i) e (fun d hd' => hd d (List.mem_of_mem_take hd'))
      have h2 : (l.take i).length ≤ 1000 := by simp; omega
      omega
    have hw := hs.w hi
    have hwl := hd _ (List.getElem_mem hi)
    refine wp_uI (wp_uI (wp_nl (wp_cond (fun _ => ?_) (fun hc => ?_))))
    · refine wp_ixN hs.sl (by omega) (hs.at hi) (fun _ _ => wp_uL (wp_uL (wp_nl ?_)))
      refine wp_blk ?_
      refine wp_range (σ := Unit) (l[i]).w.length (fun j _ => [I (wroteN (l.take i) e + ((l[i]).w.take j).count e : Nat), I j]) (fun j _ H2 => H2 = H') () (by simp) rfl ?_ ?_
      · rintro j _ H2 hj rfl
        have hcl : ((l[i]).w.take j).count e ≤ j := Nat.le_trans List.count_le_length (by simp; omega)
        refine wp_uI (wp_uI (wp_nl (wp_cond (fun _ => ?_) (fun hc => ?_))))
        · refine wp_blk ?_
          refine wp_ixN hw (by omega) (hw.at hj) (fun _ _ => wp_uI (wp_uI (wp_uI (wp_nl ?_))))
          have hcnt := count_take_succ (l[i]).w e hj
          refine wp_cond (fun c => wp_ret ?_) (fun c => wp_ret ?_)
          · refine wp_uI (wp_nl (wp_ret ⟨(), ?_, rfl⟩))
            have he : (l[i]).w[j] = e := by
              generalize (l[i]).w[j] = x at c
              cases e; cases x
              simp only [Bool.cond_eq_ite, beq_iff_eq] at c
              simp_all
            simp only
            rw [hcnt, wr_succ hj hw.lt, wr_small (by omega) (by omega)]
            simp [he, Int.add_assoc]
          · refine wp_uI (wp_nl (wp_ret ⟨(), ?_, rfl⟩))
            have he : (l[i]).w[j] ≠ e := by
              intro he; rw [he] at c; simp at c
            simp only
            rw [hcnt, wr_succ hj hw.lt]
            simp [he]
        · rw [hw.len] at hc; simp at hc; omega
      · rintro _ H2 rfl
        refine wp_uI (wp_uI (wp_nl (wp_cond (fun hc => ?_) (fun _ => wp_ret ?_))))
        · rw [hw.len] at hc; simp at hc
        · refine wp_uI (wp_nl (wp_ret ⟨(), ?_, rfl⟩))
          simp only
          rw [wroteN_succ l e hi, wr_succ hi hs.lt, List.take_length]
    · rw [hs.len] at hc; simp at hc; omega
  · rintro _ H' rfl
    refine wp_uI (wp_uI (wp_nl (wp_cond (fun hc => ?_) (fun _ => wp_ret ?_))))
    · rw [hs.len] at hc; simp at hc
    · refine wp_uI (wp_nl (wp_ret ?_))
      simp only [List.take_length]
      exact h

/-- can a history be, as the document tells it? -/
def CanR (l : List Dd) : Prop := (∀ d ∈ l, Single d.r 0 ∧ Single d.w 1) ∧ ∀ d ∈ l, (∀ e ∈ d.w, wroteN l e ≤ 1) ∧ ∀ e ∈ d.r, 0 < e.v → wroteN l e ≠ 0

theorem s12_wp {D : HV → List HV → M HV} {H : Heap} {Q : HV → Heap → Prop} {s : Sl} {l : List Dd} (hs : Deeds H s l) (hl : l.length ≤ 1000) (hd : ∀ d ∈ l, d.w.length ≤ 1000) (h : ∀ x : Bool, (x = true ↔ CanR l) → Q (.bool x) H) : wp (s12 D [.sl s]) Q H := by
  unfold s12
  refine wp_fin (wp_uL (wp_nl ?_))
  refine wp_blk ?_
  refine wp_range (σ := Unit) l.length (fun i _ => [I i]) (fun i _ H' => H' = H ∧ ∀ (j : Nat) (d : Dd), j < i → l[j]? = some d → Single d.r 0 ∧ Single d.w 1) () rfl ⟨rfl, fun j a hj => by omega⟩ ?_ ?_
  · rintro i _ H' hi ⟨rfl, hno⟩
    refine wp_uI (wp_nl (wp_cond (fun _ => ?_) (fun hc => ?_)))
    · refine wp_ixN hs.sl (by omega) (hs.at hi) (fun _ _ => wp_uL (wp_uL (wp_nl ?_)))
      refine wp_jn (wp.mono (Q := LB (¬ (Single (l[i]).r 0 ∧ Single (l[i]).w 1)) H') ?_ ?_)
      · refine wp_bnd (s21_wp (hs.r hi) 0 fun b hb => ?_)
        refine wp_asB (wp_cond (fun c => wp_ret (.mk _ ?_)) (fun c => ?_))
        · have : b = false := by simpa using c
          subst this
          exact ⟨fun _ hh => (by have := hb.2 hh.1; cases this), fun _ => rfl⟩
        · have : b = true := by simpa using c
          have h1 := hb.1 this
          refine wp_bnd (s21_wp (hs.w hi) 1 fun b2 hb2 => ?_)
          refine wp_asB (wp_ret (.mk _ ?_))
          cases b2
          · exact ⟨fun _ hh => (by have := hb2.2 hh.2; cases this), fun _ => rfl⟩
          · exact ⟨fun hh => (by cases hh), fun hh => absurd ⟨h1, hb2.1 rfl⟩ hh⟩
      · rintro _ H3 ⟨b, rfl, hb, rfl⟩
        refine wp_uB (wp_nl (wp_cond (fun c => wp_ret (h false ⟨fun hh => (by cases hh), fun hh => absurd (hh.1 _ (List.getElem_mem hi)) (hb.1 c)⟩)) (fun c => wp_ret ?_)))
        refine ⟨(), by rw [wr_succ hi hs.lt], rfl, fun j d hj hjd => ?_⟩
        by_cases hji : j = i
        · subst hji; rw [List.getElem?_eq_getElem hi] at hjd; cases hjd
          rcases Classical.em (Single (l[j]).r 0 ∧ Single (l[j]).w 1) with hk | hk
          · exact hk
          · have := hb.2 hk; rw [c] at this; cases this
        · exact hno j d (by omega) hjd
    · rw [hs.len] at hc; simp at hc; omega
  · rintro _ H' ⟨rfl, hno⟩
    have hno' : ∀ d ∈ l, Single d.r 0 ∧ Single d.w 1 := fun d hd => by
      obtain ⟨j, hj, rfl⟩ := List.getElem_of_mem hd
      exact hno j _ hj (List.getElem?_eq_getElem hj)
    refine wp_uI (wp_nl (wp_cond (fun hc => ?_) (fun _ => wp_ret ?_)))
    · rw [hs.len] at hc; simp at hc
    refine wp_nl ?_
    refine wp_blk ?_
    refine wp_range (σ := Unit) l.length (fun i _ => [I i]) (fun i _ H2 => H2 = H' ∧ ∀ (j : Nat) (d : Dd), j < i → l[j]? = some d → (∀ e ∈ d.w, wroteN l e ≤ 1) ∧ ∀ e ∈ d.r, 0 < e.v → wroteN l e ≠ 0) () rfl ⟨rfl, fun j a hj => by omega⟩ ?_ ?_
    · rintro i _ H2 hi ⟨rfl, hall⟩
      refine wp_uI (wp_nl (wp_cond (fun _ => ?_) (fun hc => ?_)))
      · refine wp_ixN hs.sl (by omega) (hs.at hi) (fun _ _ => wp_uL (wp_uL (wp_nl ?_)))
        refine wp_blk ?_
        have hw := hs.w hi
        have hr := hs.r hi
        refine wp_range (σ := Unit) (l[i]).w.length (fun j _ => [I j]) (fun j _ H3 => H3 = H2 ∧ ∀ (q : Nat) (e : En), q < j → (l[i]).w[q]? = some e → wroteN l e ≤ 1) () rfl ⟨rfl, fun j a hj => by omega⟩ ?_ ?_
        · rintro j _ H3 hj ⟨rfl, hw1⟩
          refine wp_uI (wp_nl (wp_cond (fun _ => ?_) (fun hc => ?_)))
          · refine wp_ixN hw (by omega) (hw.at hj) (fun _ _ => wp_uI (wp_uI (wp_uI (wp_nl ?_))))
            refine wp_bnd (s22_wp hs hl hd (l[i]).w[j] ?_)
            refine wp_asI (wp_cond (fun c => wp_ret (h false ⟨fun hh => (by cases hh), fun hh => ?_⟩)) (fun c => wp_ret ?_))
            · have := (hh.2 _ (List.getElem_mem hi)).1 _ (List.getElem_mem hj)
              simp at c; omega
            · refine ⟨(), by rw [wr_succ hj hw.lt], rfl, fun q e hq hqe => ?_⟩
              by_cases hqj : q = j
              · subst hqj; rw [List.getElem?_eq_getElem hj] at hqe; cases hqe
                simp at c; omega
              · exact hw1 q e (by omega) hqe
          · rw [hw.len] at hc; simp at hc; omega
        · rintro _ H3 ⟨rfl, hw1⟩
          refine wp_uI (wp_nl (wp_cond (fun hc => ?_) (fun _ => wp_ret ?_)))
          · rw [hw.len] at hc; simp at hc
          refine wp_nl ?_
          refine wp_blk ?_
          refine wp_range (σ := Unit) (l[i]).r.length (fun j _ => [I j]) (fun j _ H4 => H4 = H3 ∧ ∀ (q : Nat) (e : En), q < j → (l[i]).r[q]? = some e → 0 < e.v → wroteN l e ≠ 0) () rfl ⟨rfl, fun j a hj => by omega⟩ ?_ ?_
          · rintro j _ H4 hj ⟨rfl, hr1⟩
            refine wp_uI (wp_nl (wp_cond (fun _ => ?_) (fun hc => ?_)))
            · refine wp_ixN hr (by omega) (hr.at hj) (fun _ _ => wp_uI (wp_uI (wp_uI (wp_nl ?_))))
              refine wp_jn (wp.mono (Q := LB (0 < (l[i]).r[j].v ∧ wroteN l (l[i]).r[j] = 0) H4) ?_ ?_)
              · refine wp_cond (fun c => ?_) (fun c => wp_ret (.mk _ ?_))
                · refine wp_bnd (s22_wp hs hl hd (l[i]).r[j] ?_)
                  refine wp_asI (wp_ret (.mk _ ?_))
                  simp at c ⊢
                  omega
                · simp at c ⊢
                  omega
              · rintro _ H5 ⟨b, rfl, hb, rfl⟩
                refine wp_uB (wp_nl (wp_cond (fun c => wp_ret (h false ⟨fun hh => (by cases hh), fun hh => ?_⟩)) (fun c => wp_ret ?_)))
                · have h1 := hb.1 c
                  exact absurd h1.2 ((hh.2 _ (List.getElem_mem hi)).2 _ (List.getElem_mem hj) h1.1)
                · refine ⟨(), by rw [wr_succ hj hr.lt], rfl, fun q e hq hqe hv => ?_⟩
                  by_cases hqj : q = j
                  · subst hqj; rw [List.getElem?_eq_getElem hj] at hqe; cases hqe
                    intro hk; have := hb.2 ⟨hv, hk⟩; rw [c] at this; cases this
                  · exact hr1 q e (by omega) hqe hv
            · rw [hr.len] at hc; simp at hc; omega
          · rintro _ H4 ⟨rfl, hr1⟩
            refine wp_uI (wp_nl (wp_cond (fun hc => ?_) (fun _ => wp_ret ?_)))
            · rw [hr.len] at hc; simp at hc
            refine wp_nl (wp_ret ⟨(), by rw [wr_succ hi hs.lt], rfl, fun j d hj hjd => ?_⟩)
            by_cases hji : j = i
            · subst hji; rw [List.getElem?_eq_getElem hi] at hjd; cases hjd
              refine ⟨fun e he => ?_, fun e he hv => ?_⟩
              · obtain ⟨q, hq, rfl⟩ := List.getElem_of_mem he
                exact hw1 q _ hq (List.getElem?_eq_getElem hq)
              · obtain ⟨q, hq, rfl⟩ := List.getElem_of_mem he
                exact hr1 q _ hq (List.getElem?_eq_getElem hq) hv
            · exact hall j d (by omega) hjd
      · rw [hs.len] at hc; simp at hc; omega
    · rintro _ H2 ⟨rfl, hall⟩
      refine wp_uI (wp_nl (wp_cond (fun hc => ?_) (fun _ => wp_ret ?_)))
      · rw [hs.len] at hc; simp at hc
      refine wp_nl (wp_ret (h true ⟨fun _ => ⟨hno', fun d hd => ?_⟩, fun _ => rfl⟩))
      obtain ⟨j, hj, rfl⟩ := List.getElem_of_mem hd
      exact hall j _ hj (List.getElem?_eq_getElem hj)
end Go.Proofs.Ythlfemjbeihmbaa.HL
