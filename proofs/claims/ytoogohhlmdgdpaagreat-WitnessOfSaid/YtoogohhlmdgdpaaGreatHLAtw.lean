/- Serial, Replays, alive: walked, out of the walks of law30. Conditions: none. -/
import Derived.Test.YtoogohhlmdgdpaaGreatHLMe
import Derived.Test.YtoogohhlmdgdpaaGreatHL5a
namespace Go.Proofs.YtoogohhlmdgdpaaGreat.HL
open Go
structure En where
  k : Int
  i : Int
  v : Int
deriving DecidableEq
def En.cs (e : En) : List HV := [I e.k, I e.i, I e.v]
def Ents (H : Heap) (s : Sl) (l : List En) : Prop := SlR H s 3 (l.map En.cs)
structure Dd where
  rs : Sl
  ws : Sl
  r : List En
  w : List En
def Dd.cs (d : Dd) : List HV := [.sl d.rs, .sl d.ws]
structure Deeds (H : Heap) (s : Sl) (l : List Dd) : Prop where
  sl : SlR H s 2 (l.map Dd.cs)
  ok : ∀ d ∈ l, Ents H d.rs d.r ∧ Ents H d.ws d.w
def alike (a b : En) : Bool := a.k == b.k && a.i == b.i
theorem s29_wp {D : HV → List HV → M HV} {H : Heap} {Q : HV → Heap → Prop} (a b : En) (h : Q (.bool (alike a b)) H) : wp (f_witness_alike D [.agg a.cs, .agg b.cs]) Q H := by
  unfold f_witness_alike
  refine wp_fin (wp_uA (wp_uI (wp_uI (wp_uI (wp_nl (wp_uA (wp_uI (wp_uI (wp_uI (wp_nl (wp_nl ?_)))))))))))
  refine wp_jn (wp_cond (fun h1 => wp_ret ?_) (fun h1 => wp_ret ?_))
  all_goals
    refine wp_uB (wp_nl (wp_ret ?_))
    unfold alike at h
    rw [h1] at h
    simpa using h
theorem Ents.at {H : Heap} {s : Sl} {l : List En} (_h : Ents H s l) {i : Nat} (hi : i < l.length) : (l.map En.cs)[((i : Nat) : Int).toNat]? = some (l[i]).cs := by simp [hi]
theorem Ents.len {H : Heap} {s : Sl} {l : List En} (h : Ents H s l) : s.len = l.length := by have := SlR.len h; simpa using this
theorem Ents.lt {H : Heap} {s : Sl} {l : List En} (h : Ents H s l) : l.length ≤ 9223372036854775807 := by have := SlR.lt h; simpa using this
/-- a round's step. -/
theorem wr_succ {i len : Nat} (h : i < len) (hl : len ≤ 9223372036854775807) : wr ((i : Int) + 1) = ((i + 1 : Nat) : Int) := by
  rw [wr_small (by omega) (by omega)]; rfl
theorem s32_wp {D : HV → List HV → M HV} {H : Heap} {Q : HV → Heap → Prop} {s : Sl} {l : List En} (hs : Ents H s l) (e : En) (h : ∀ n : Int, (0 ≤ n ↔ e ∈ l) → Q (I n) H) : wp (f_slices_Index_reads_Entry_reads_Entry D [.sl s, .agg e.cs]) Q H := by
  unfold f_slices_Index_reads_Entry_reads_Entry
  refine wp_fin (wp_uL (wp_uA (wp_uI (wp_uI (wp_uI (wp_nl (wp_nl ?_)))))))
  refine wp_blk ?_
  refine wp_range (σ := Unit) l.length (fun i _ => [I i]) (fun i _ H' => H' = H ∧ ∀ j, j < i → l[j]? ≠ some e) () rfl ⟨rfl, fun j hj => by omega⟩ ?_ ?_
  · rintro i _ H' hi ⟨rfl, hno⟩
    refine wp_uI (wp_nl (wp_cond (fun _ => ?_) (fun hc => ?_)))
    · refine wp_ixN hs (by omega) (hs.at hi) (fun _ _ => wp_uI (wp_uI (wp_uI (wp_nl ?_))))
      refine wp_cond (fun hc => wp_ret ?_) (fun hc => wp_ret ?_)
      · have he : e = l[i] := by
          generalize l[i] = x at hc
          cases e; cases x
          simp only [Bool.cond_eq_ite, beq_iff_eq] at hc
          simp_all
        exact h i ⟨fun _ => he ▸ List.getElem_mem _, fun _ => by omega⟩
      · have he : e ≠ l[i] := by
          intro he; rw [← he] at hc; simp at hc
        refine ⟨(), by rw [wr_succ hi hs.lt], rfl, fun j hj => ?_⟩
        by_cases hji : j = i
        · subst hji; rw [List.getElem?_eq_getElem hi]; intro hh; cases hh; exact he rfl
        · exact hno j (by omega)
    · rw [hs.len] at hc; simp at hc; omega
  · rintro _ H' ⟨rfl, hno⟩
    refine wp_uI (wp_nl (wp_cond (fun hc => ?_) (fun _ => wp_ret ?_)))
    · rw [hs.len] at hc; simp at hc
    · refine wp_nl (wp_ret ?_)
      refine h (-1) ⟨fun hh => by omega, fun hm => ?_⟩
      obtain ⟨j, hj, he⟩ := List.getElem_of_mem hm
      exact absurd (by rw [List.getElem?_eq_getElem hj, he]) (hno j hj)
theorem s31_wp {D : HV → List HV → M HV} {H : Heap} {Q : HV → Heap → Prop} {s : Sl} {l : List En} (hs : Ents H s l) (e : En) (h : ∀ b : Bool, (b = true ↔ e ∈ l) → Q (.bool b) H) : wp (f_slices_Contains_reads_Entry_reads_Entry D [.sl s, .agg e.cs]) Q H := by
  unfold f_slices_Contains_reads_Entry_reads_Entry
  refine wp_fin (wp_uL (wp_uA (wp_uI (wp_uI (wp_uI (wp_nl (wp_nl ?_)))))))
  refine wp_bnd (s32_wp hs e fun n hn => ?_)
  exact wp_asI (wp_ret (h (decide (n ≥ 0)) (by simpa using hn)))
def okE (least : Int) (e : En) : Prop := 0 ≤ e.k ∧ e.k ≤ 2 ∧ 0 ≤ e.i ∧ e.i < 8 ∧ least ≤ e.v
def Single (l : List En) (least : Int) : Prop := l.length ≤ 24 ∧ ∀ (i : Nat) (e : En), l[i]? = some e → okE least e ∧ ∀ (j : Nat), j < i → ∀ (o : En), l[j]? = some o → alike e o = false
/-- what a join's leaves hand on: one bool. -/
def LB (p : Prop) (H : Heap) : Leaf → Heap → Prop := fun l H' => ∃ b : Bool, l = .norm [.bool b] ∧ (b = true ↔ p) ∧ H' = H
theorem LB.mk {p : Prop} {H : Heap} (b : Bool) (h : b = true ↔ p) : LB p H (.norm [.bool b]) H := ⟨b, rfl, h, rfl⟩
theorem s27_wp {D : HV → List HV → M HV} {H : Heap} {Q : HV → Heap → Prop} {s : Sl} {l : List En} (hs : Ents H s l) (least : Int) (h : ∀ b : Bool, (b = true ↔ Single l least) → Q (.bool b) H) : wp (f_witness_single D [.sl s, I least]) Q H := by
  unfold f_witness_single
  refine wp_fin (wp_uL (wp_uI (wp_nl (wp_cond (fun h1 => ?_) (fun h1 => ?_)))))
  · refine wp_ret (h false ⟨fun hh => (by cases hh), fun hh => ?_⟩)
    have := hh.1
    rw [hs.len] at h1; simp at h1; omega
  · rw [hs.len] at h1
    have h24 : l.length ≤ 24 := by simp at h1; omega
    refine wp_blk ?_
    refine wp_range (σ := Unit) l.length (fun i _ => [I i]) (fun i _ H' => H' = H ∧ ∀ (j : Nat) (e : En), j < i → l[j]? = some e → okE least e ∧ ∀ (q : Nat), q < j → ∀ (o : En), l[q]? = some o → alike e o = false) () rfl ⟨rfl, fun j e hj => by omega⟩ ?_ ?_
    · rintro i _ H' hi ⟨rfl, hno⟩
      refine wp_uI (wp_nl (wp_cond (fun _ => ?_) (fun hc => ?_)))
      · refine wp_ixN hs (by omega) (hs.at hi) (fun _ _ => wp_uI (wp_uI (wp_uI (wp_nl ?_))))
        refine wp_jn (wp.mono (Q := LB (¬ okE least l[i]) H') ?_ ?_)
        · refine wp_cond (fun c1 => wp_ret (.mk _ ?_)) fun c1 => wp_cond (fun c2 => wp_ret (.mk _ ?_)) fun c2 => wp_cond (fun c3 => wp_ret (.mk _ ?_)) fun c3 => wp_cond (fun c4 => wp_ret (.mk _ ?_)) fun c4 => wp_ret (.mk _ ?_)
          all_goals simp only [decide_eq_true_eq, decide_eq_false_iff_not] at *
          all_goals simp only [okE, true_iff]
          all_goals omega
        · rintro _ H3 ⟨b, rfl, hb, rfl⟩
          refine wp_uB (wp_nl (wp_cond (fun c => wp_ret (h false ⟨fun hh => (by cases hh), fun hh => ?_⟩)) (fun c => ?_)))
          · exact absurd ((hh.2 i _ (List.getElem?_eq_getElem hi)).1) (hb.1 c)
          · have hok : okE least l[i] := by
              rcases Classical.em (okE least l[i]) with hk | hk
              · exact hk
              · have := hb.2 hk; rw [c] at this; cases this
            refine wp_slice_pre hs (by simpa using hi) ?_
            have hp := SlR.pre hs (i := i) (by simp; omega)
            have hpl : (s.pre 3 i).len = i := by have := hp.len; simp at this; omega
            have hop : slOp s.opn (decide (0 < (s.cap : Int))) = s.opn := by
              have h1 := SlR.cap hs
              have h2 := SlR.len hs
              simp only [List.length_map] at h2
              rw [decide_eq_true (by omega)]; cases s.opn <;> rfl
            rw [hop]
            refine wp_blk ?_
            refine wp_range (σ := Unit) i (fun j _ => [I j]) (fun j _ H2 => H2 = H3 ∧ ∀ (q : Nat), q < j → ∀ (o : En), l[q]? = some o → alike l[i] o = false) () rfl ⟨rfl, fun j hj => by omega⟩ ?_ ?_
            · rintro j _ H2 hj ⟨rfl, hall⟩
              refine wp_uI (wp_nl (wp_cond (fun _ => ?_) (fun hc => ?_)))
              · have hjl : j < l.length := by omega
                refine wp_ixN (s := s.pre 3 i) hp (by omega) (l := (l[j]).cs) (by simp [hj, hjl]) (fun _ _ => wp_uI (wp_uI (wp_uI (wp_nl ?_))))
                refine wp_bnd (s29_wp l[i] l[j] ?_)
                refine wp_asB (wp_cond (fun c2 => wp_ret (h false ⟨fun hh => (by cases hh), fun hh => ?_⟩)) (fun c2 => wp_ret ?_))
                · have := (hh.2 i _ (List.getElem?_eq_getElem hi)).2 j hj _ (List.getElem?_eq_getElem hjl)
                  rw [c2] at this; cases this
                · refine ⟨(), by rw [wr_succ hj (by have := hs.lt; omega)], rfl, fun q hq o ho => ?_⟩
                  by_cases hqj : q = j
                  · subst hqj; rw [List.getElem?_eq_getElem hjl] at ho; cases ho; exact c2
                  · exact hall q (by omega) o ho
              · simp at hc; omega
            · rintro _ H2 ⟨rfl, hall⟩
              refine wp_uI (wp_nl (wp_cond (fun hc => ?_) (fun _ => wp_ret ?_)))
              · simp at hc
              · refine wp_nl (wp_ret ?_)
                refine ⟨(), by rw [wr_succ hi hs.lt], rfl, fun j e hj hje => ?_⟩
                by_cases hji : j = i
                · subst hji
                  rw [List.getElem?_eq_getElem hi] at hje; cases hje
                  exact ⟨hok, hall⟩
                · exact hno j e (by omega) hje
      · rw [hs.len] at hc; simp at hc; omega
    · rintro _ H' ⟨rfl, hno⟩
      refine wp_uI (wp_nl (wp_cond (fun hc => ?_) (fun _ => wp_ret ?_)))
      · rw [hs.len] at hc; simp at hc
      · refine wp_nl (wp_ret (h true ⟨fun _ => ⟨h24, fun i e he => hno i e (List.getElem?_eq_some_iff.1 he).1 he⟩, fun _ => rfl⟩))
theorem Deeds.at {H : Heap} {s : Sl} {l : List Dd} (_ : Deeds H s l) {i : Nat} (hi : i < l.length) : (l.map Dd.cs)[((i : Nat) : Int).toNat]? = some (l[i]).cs := by simp [hi]
theorem Deeds.len {H : Heap} {s : Sl} {l : List Dd} (h : Deeds H s l) : s.len = l.length := by have := h.sl.len; simpa using this
theorem Deeds.lt {H : Heap} {s : Sl} {l : List Dd} (h : Deeds H s l) : l.length ≤ 9223372036854775807 := by have := h.sl.lt; simpa using this
theorem Deeds.r {H : Heap} {s : Sl} {l : List Dd} (h : Deeds H s l) {i : Nat} (hi : i < l.length) : Ents H (l[i]).rs (l[i]).r := (h.ok _ (List.getElem_mem hi)).1
theorem Deeds.w {H : Heap} {s : Sl} {l : List Dd} (h : Deeds H s l) {i : Nat} (hi : i < l.length) : Ents H (l[i]).ws (l[i]).w := (h.ok _ (List.getElem_mem hi)).2
/-- how many deeds wrote an entry. -/
def writersN (l : List Dd) (e : En) : Nat := l.countP fun d => decide (e ∈ d.w)
theorem countP_take_succ {α : Type} (p : α → Bool) (l : List α) {i : Nat} (hi : i < l.length) : (l.take (i + 1)).countP p = (l.take i).countP p + (if p l[i] then 1 else 0) := by
  rw [List.take_succ_eq_append_getElem hi, List.countP_append]
  simp [List.countP_cons]
theorem s28_wp {D : HV → List HV → M HV} {H : Heap} {Q : HV → Heap → Prop} {s : Sl} {l : List Dd} (hs : Deeds H s l) (e : En) (h : Q (I (writersN l e)) H) : wp (f_witness_writers D [.sl s, .agg e.cs]) Q H := by
  unfold f_witness_writers
  refine wp_fin (wp_uL (wp_uA (wp_uI (wp_uI (wp_uI (wp_nl (wp_nl ?_)))))))
  refine wp_blk ?_
  refine wp_range (σ := Unit) l.length (fun i _ => [I ((l.take i).countP fun d => decide (e ∈ d.w) : Nat), I i]) (fun i _ H' => H' = H) () (by simp) rfl ?_ ?_
  · rintro i _ H' hi rfl
    refine wp_uI (wp_uI (wp_nl (wp_cond (fun _ => ?_) (fun hc => ?_))))
    · refine wp_blk ?_
      refine wp_ixN hs.sl (by omega) (hs.at hi) (fun _ _ => wp_uL (wp_uL (wp_nl ?_)))
      refine wp_bnd (s31_wp (hs.w hi) e fun b hb => ?_)
      have hcnt := countP_take_succ (fun d => decide (e ∈ d.w)) l hi
      have hle : (l.take i).countP (fun d => decide (e ∈ d.w)) ≤ i := Nat.le_trans List.countP_le_length (by simp; omega)
      have hlt := hs.lt
      refine wp_asB (wp_cond (fun c => wp_ret ?_) (fun c => wp_ret ?_))
      · refine wp_uI (wp_nl (wp_ret ⟨(), ?_, rfl⟩))
        have hm : e ∈ (l[i]).w := hb.1 c
        simp only
        rw [hcnt, wr_succ hi hs.lt, wr_small (by omega) (by omega)]
        simp [hm]
      · refine wp_uI (wp_nl (wp_ret ⟨(), ?_, rfl⟩))
        have hm : ¬ e ∈ (l[i]).w := fun hh => by have := hb.2 hh; rw [c] at this; cases this
        simp only
        rw [hcnt, wr_succ hi hs.lt]
        simp [hm]
    · rw [hs.len] at hc; simp at hc; omega
  · rintro _ H' rfl
    refine wp_uI (wp_uI (wp_nl (wp_cond (fun hc => ?_) (fun _ => wp_ret ?_))))
    · rw [hs.len] at hc; simp at hc
    · refine wp_uI (wp_nl (wp_ret ?_))
      simp only [List.take_length]
      exact h
/-- is some entry of the one row of a thing of the other, and so much younger? -/
def Younger (old young : List En) (much : Int) : Prop := ∃ a ∈ old, ∃ b ∈ young, alike a b = true ∧ much ≤ b.v ∧ a.v ≤ b.v - much
theorem s17_wp {D : HV → List HV → M HV} {H : Heap} {Q : HV → Heap → Prop} {s t : Sl} {l m : List En} (hs : Ents H s l) (ht : Ents H t m) {much : Int} (h0 : 0 ≤ much) (hmx : ∀ b ∈ m, b.v ≤ 9223372036854775807)
    (h : ∀ b : Bool, (b = true ↔ Younger l m much) → Q (.bool b) H) : wp (f_witness_younger D [.sl s, .sl t, I much]) Q H := by
  unfold f_witness_younger
  refine wp_fin (wp_uL (wp_uL (wp_uI (wp_nl ?_))))
  refine wp_blk ?_
  refine wp_range (σ := Unit) l.length (fun i _ => [I i]) (fun i _ H' => H' = H ∧ ∀ (j : Nat) (a : En), j < i → l[j]? = some a → ∀ b ∈ m, ¬ (alike a b = true ∧ much ≤ b.v ∧ a.v ≤ b.v - much)) () rfl ⟨rfl, fun j a hj => by omega⟩ ?_ ?_
  · rintro i _ H' hi ⟨rfl, hno⟩
    refine wp_uI (wp_nl (wp_cond (fun _ => ?_) (fun hc => ?_)))
    · refine wp_ixN hs (by omega) (hs.at hi) (fun _ _ => wp_uI (wp_uI (wp_uI (wp_nl ?_))))
      refine wp_blk ?_
      refine wp_range (σ := Unit) m.length (fun j _ => [I j]) (fun j _ H2 => H2 = H' ∧ ∀ (q : Nat) (b : En), q < j → m[q]? = some b → ¬ (alike l[i] b = true ∧ much ≤ b.v ∧ (l[i]).v ≤ b.v - much)) () rfl ⟨rfl, fun j a hj => by omega⟩ ?_ ?_
      · rintro j _ H2 hj ⟨rfl, hno2⟩
        refine wp_uI (wp_nl (wp_cond (fun _ => ?_) (fun hc => ?_)))
        · refine wp_ixN ht (by omega) (ht.at hj) (fun _ _ => wp_uI (wp_uI (wp_uI (wp_nl ?_))))
          refine wp_jn (wp.mono (Q := LB (alike l[i] m[j] = true ∧ much ≤ (m[j]).v ∧ (l[i]).v ≤ (m[j]).v - much) H2) ?_ ?_)
          · refine wp_bnd (s29_wp l[i] m[j] (wp_asB (wp_cond (fun c1 => wp_cond (fun c2 => wp_ret (.mk _ ?_)) (fun c2 => wp_ret (.mk _ ?_))) (fun c1 => wp_ret (.mk _ ?_)))))
            · have := hmx _ (List.getElem_mem hj)
              simp only [decide_eq_true_eq] at c2 ⊢
              rw [wr_small (by omega) (by omega)]
              exact ⟨fun h => ⟨c1, c2, h⟩, fun h => h.2.2⟩
            · simp only [decide_eq_false_iff_not] at c2
              exact ⟨fun h => (by cases h), fun h => absurd h.2.1 c2⟩
            · exact ⟨fun h => (by cases h), fun h => (by rw [h.1] at c1; cases c1)⟩
          · rintro _ H3 ⟨b, rfl, hb, rfl⟩
            refine wp_uB (wp_nl (wp_cond (fun c => wp_ret (h true ⟨fun _ => ⟨_, List.getElem_mem hi, _, List.getElem_mem hj, hb.1 c⟩, fun _ => rfl⟩)) (fun c => wp_ret ?_)))
            refine ⟨(), by rw [wr_succ hj ht.lt], rfl, fun q b' hq hqb => ?_⟩
            by_cases hqj : q = j
            · subst hqj; rw [List.getElem?_eq_getElem hj] at hqb; cases hqb
              intro hh; have := hb.2 hh; rw [c] at this; cases this
            · exact hno2 q b' (by omega) hqb
        · rw [ht.len] at hc; simp at hc; omega
      · rintro _ H2 ⟨rfl, hno2⟩
        refine wp_uI (wp_nl (wp_cond (fun hc => ?_) (fun _ => wp_ret ?_)))
        · rw [ht.len] at hc; simp at hc
        · refine wp_nl (wp_ret ⟨(), by rw [wr_succ hi hs.lt], rfl, fun j a hj hja b hb => ?_⟩)
          by_cases hji : j = i
          · subst hji; rw [List.getElem?_eq_getElem hi] at hja; cases hja
            obtain ⟨q, hq, rfl⟩ := List.getElem_of_mem hb
            exact hno2 q _ hq (List.getElem?_eq_getElem hq)
          · exact hno j a (by omega) hja b hb
    · rw [hs.len] at hc; simp at hc; omega
  · rintro _ H' ⟨rfl, hno⟩
    refine wp_uI (wp_nl (wp_cond (fun hc => ?_) (fun _ => wp_ret ?_)))
    · rw [hs.len] at hc; simp at hc
    · refine wp_nl (wp_ret (h false ⟨fun hh => (by cases hh), ?_⟩))
      rintro ⟨a, ha, b, hb, hh⟩
      obtain ⟨j, hj, rfl⟩ := List.getElem_of_mem ha
      exact absurd hh (hno j _ hj (List.getElem?_eq_getElem hj) b hb)
def FitW (l : List En) : Prop := ∀ e ∈ l, e.v ≤ 9223372036854775807
structure DFit (d : Dd) : Prop where
  r : FitW d.r
  w : FitW d.w
/-- must the one come ahead of the other? -/
def Ahead (a b : Dd) : Prop := Younger a.w b.r 0 ∨ Younger a.w b.w 1 ∨ Younger a.r b.w 1
theorem s19_wp {D : HV → List HV → M HV} {H : Heap} {Q : HV → Heap → Prop} {a b : Dd} (ha : Ents H a.rs a.r ∧ Ents H a.ws a.w) (hb : Ents H b.rs b.r ∧ Ents H b.ws b.w) (fb : DFit b)
    (h : ∀ x : Bool, (x = true ↔ Ahead a b) → Q (.bool x) H) : wp (f_witness_ahead D [.agg a.cs, .agg b.cs]) Q H := by
  unfold f_witness_ahead
  refine wp_fin (wp_uA (wp_uL (wp_uL (wp_nl (wp_uA (wp_uL (wp_uL (wp_nl (wp_nl ?_)))))))))
  refine wp_jn (wp.mono (Q := LB (Ahead a b) H) ?_ ?_)
  · refine wp_bnd (s17_wp ha.2 hb.1 (by omega) fb.r fun x hx => ?_)
    refine wp_asB (wp_cond (fun c => wp_ret (.mk _ ⟨fun _ => .inl (hx.1 c), fun _ => rfl⟩)) (fun c => ?_))
    refine wp_bnd (s17_wp ha.2 hb.2 (by omega) fb.w fun y hy => ?_)
    refine wp_asB (wp_cond (fun c2 => wp_ret (.mk _ ⟨fun _ => .inr (.inl (hy.1 c2)), fun _ => rfl⟩)) (fun c2 => ?_))
    refine wp_bnd (s17_wp ha.1 hb.2 (by omega) fb.w fun z hz => ?_)
    refine wp_asB (wp_ret (.mk _ ⟨fun hh => .inr (.inr (hz.1 hh)), ?_⟩))
    rintro (h1 | h1 | h1)
    · have := hx.2 h1; rw [c] at this; cases this
    · have := hy.2 h1; rw [c2] at this; cases this
    · exact hz.2 h1
  · rintro _ H3 ⟨x, rfl, hx, rfl⟩
    exact wp_uB (wp_nl (wp_ret (h x hx)))
/-- can a history be, as the program tells it? -/
def CanP (l : List Dd) : Prop := (∀ d ∈ l, Single d.r 0 ∧ Single d.w 1) ∧ ∀ d ∈ l, (∀ e ∈ d.w, writersN l e = 1) ∧ ∀ e ∈ d.r, 0 < e.v → writersN l e = 1
theorem s16_wp {D : HV → List HV → M HV} {H : Heap} {Q : HV → Heap → Prop} {s : Sl} {l : List Dd} (hs : Deeds H s l) (h : ∀ x : Bool, (x = true ↔ CanP l) → Q (.bool x) H) : wp (f_witness_can D [.sl s]) Q H := by
  unfold f_witness_can
  refine wp_fin (wp_uL (wp_nl ?_))
  refine wp_blk ?_
  refine wp_range (σ := Unit) l.length (fun i _ => [I i]) (fun i _ H' => H' = H ∧ ∀ (j : Nat) (d : Dd), j < i → l[j]? = some d → Single d.r 0 ∧ Single d.w 1) () rfl ⟨rfl, fun j a hj => by omega⟩ ?_ ?_
  · rintro i _ H' hi ⟨rfl, hno⟩
    refine wp_uI (wp_nl (wp_cond (fun _ => ?_) (fun hc => ?_)))
    · refine wp_ixN hs.sl (by omega) (hs.at hi) (fun _ _ => wp_uL (wp_uL (wp_nl ?_)))
      refine wp_jn (wp.mono (Q := LB (¬ (Single (l[i]).r 0 ∧ Single (l[i]).w 1)) H') ?_ ?_)
      · refine wp_bnd (s27_wp (hs.r hi) 0 fun b hb => ?_)
        refine wp_asB (wp_cond (fun c => wp_ret (.mk _ ?_)) (fun c => ?_))
        · have : b = false := by simpa using c
          subst this
          exact ⟨fun _ hh => (by have := hb.2 hh.1; cases this), fun _ => rfl⟩
        · have : b = true := by simpa using c
          have h1 := hb.1 this
          refine wp_bnd (s27_wp (hs.w hi) 1 fun b2 hb2 => ?_)
          refine wp_asB (wp_ret (.mk _ ?_))
          cases b2
          · exact ⟨fun _ hh => (by have := hb2.2 hh.2; cases this), fun _ => rfl⟩
          · exact ⟨fun hh => (by cases hh), fun hh => absurd ⟨h1, hb2.1 rfl⟩ hh⟩
      · rintro _ H3 ⟨b, rfl, hb, rfl⟩
        refine wp_uB (wp_nl (wp_cond (fun c => wp_ret (h false ⟨fun hh => (by cases hh), fun hh => absurd (hh.1 _ (List.getElem_mem hi)) (hb.1 c)⟩)) (fun c => wp_ret ?_)))
        refine ⟨(), by rw [wr_succ hi hs.lt], rfl, fun j d hj hjd => ?_⟩
        by_cases hji : j = i
        · subst hji; rw [List.getElem?_eq_getElem hi] at hjd; cases hjd
          rcases Classical.em (Single (l[j]).r 0 ∧ Single (l[j]).w 1) with hk | hk
          · exact hk
          · have := hb.2 hk; rw [c] at this; cases this
        · exact hno j d (by omega) hjd
    · rw [hs.len] at hc; simp at hc; omega
  · rintro _ H' ⟨rfl, hno⟩
    have hno' : ∀ d ∈ l, Single d.r 0 ∧ Single d.w 1 := fun d hd => by
      obtain ⟨j, hj, rfl⟩ := List.getElem_of_mem hd
      exact hno j _ hj (List.getElem?_eq_getElem hj)
    refine wp_uI (wp_nl (wp_cond (fun hc => ?_) (fun _ => wp_ret ?_)))
    · rw [hs.len] at hc; simp at hc
    refine wp_nl ?_
    refine wp_blk ?_
    refine wp_range (σ := Unit) l.length (fun i _ => [I i]) (fun i _ H2 => H2 = H' ∧ ∀ (j : Nat) (d : Dd), j < i → l[j]? = some d → (∀ e ∈ d.w, writersN l e = 1) ∧ ∀ e ∈ d.r, 0 < e.v → writersN l e = 1) () rfl ⟨rfl, fun j a hj => by omega⟩ ?_ ?_
    · rintro i _ H2 hi ⟨rfl, hall⟩
      refine wp_uI (wp_nl (wp_cond (fun _ => ?_) (fun hc => ?_)))
      · refine wp_ixN hs.sl (by omega) (hs.at hi) (fun _ _ => wp_uL (wp_uL (wp_nl ?_)))
        refine wp_blk ?_
        have hw := hs.w hi
        have hr := hs.r hi
        refine wp_range (σ := Unit) (l[i]).w.length (fun j _ => [I j]) (fun j _ H3 => H3 = H2 ∧ ∀ (q : Nat) (e : En), q < j → (l[i]).w[q]? = some e → writersN l e = 1) () rfl ⟨rfl, fun j a hj => by omega⟩ ?_ ?_
        · rintro j _ H3 hj ⟨rfl, hw1⟩
          refine wp_uI (wp_nl (wp_cond (fun _ => ?_) (fun hc => ?_)))
          · refine wp_ixN hw (by omega) (hw.at hj) (fun _ _ => wp_uI (wp_uI (wp_uI (wp_nl ?_))))
            refine wp_bnd (s28_wp hs (l[i]).w[j] ?_)
            refine wp_asI (wp_cond (fun c => wp_ret (h false ⟨fun hh => (by cases hh), fun hh => ?_⟩)) (fun c => wp_ret ?_))
            · have := (hh.2 _ (List.getElem_mem hi)).1 _ (List.getElem_mem hj)
              rw [this] at c; simp at c
            · refine ⟨(), by rw [wr_succ hj hw.lt], rfl, fun q e hq hqe => ?_⟩
              by_cases hqj : q = j
              · subst hqj; rw [List.getElem?_eq_getElem hj] at hqe; cases hqe
                simp at c; omega
              · exact hw1 q e (by omega) hqe
          · rw [hw.len] at hc; simp at hc; omega
        · rintro _ H3 ⟨rfl, hw1⟩
          refine wp_uI (wp_nl (wp_cond (fun hc => ?_) (fun _ => wp_ret ?_)))
          · rw [hw.len] at hc; simp at hc
          refine wp_nl ?_
          refine wp_blk ?_
          refine wp_range (σ := Unit) (l[i]).r.length (fun j _ => [I j]) (fun j _ H4 => H4 = H3 ∧ ∀ (q : Nat) (e : En), q < j → (l[i]).r[q]? = some e → 0 < e.v → writersN l e = 1) () rfl ⟨rfl, fun j a hj => by omega⟩ ?_ ?_
          · rintro j _ H4 hj ⟨rfl, hr1⟩
            refine wp_uI (wp_nl (wp_cond (fun _ => ?_) (fun hc => ?_)))
            · refine wp_ixN hr (by omega) (hr.at hj) (fun _ _ => wp_uI (wp_uI (wp_uI (wp_nl ?_))))
              refine wp_jn (wp.mono (Q := LB (0 < (l[i]).r[j].v ∧ writersN l (l[i]).r[j] ≠ 1) H4) ?_ ?_)
              · refine wp_cond (fun c => ?_) (fun c => wp_ret (.mk _ ?_))
                · refine wp_bnd (s28_wp hs (l[i]).r[j] ?_)
                  refine wp_asI (wp_ret (.mk _ ?_))
                  simp at c ⊢
                  omega
                · simp at c ⊢
                  omega
              · rintro _ H5 ⟨b, rfl, hb, rfl⟩
                refine wp_uB (wp_nl (wp_cond (fun c => wp_ret (h false ⟨fun hh => (by cases hh), fun hh => ?_⟩)) (fun c => wp_ret ?_)))
                · have h1 := hb.1 c
                  exact absurd ((hh.2 _ (List.getElem_mem hi)).2 _ (List.getElem_mem hj) h1.1) h1.2
                · refine ⟨(), by rw [wr_succ hj hr.lt], rfl, fun q e hq hqe hv => ?_⟩
                  by_cases hqj : q = j
                  · subst hqj; rw [List.getElem?_eq_getElem hj] at hqe; cases hqe
                    rcases Classical.em (writersN l (l[i]).r[q] = 1) with hk | hk
                    · exact hk
                    · have := hb.2 ⟨hv, hk⟩; rw [c] at this; cases this
                  · exact hr1 q e (by omega) hqe hv
            · rw [hr.len] at hc; simp at hc; omega
          · rintro _ H4 ⟨rfl, hr1⟩
            refine wp_uI (wp_nl (wp_cond (fun hc => ?_) (fun _ => wp_ret ?_)))
            · rw [hr.len] at hc; simp at hc
            refine wp_nl (wp_ret ⟨(), by rw [wr_succ hi hs.lt], rfl, fun j d hj hjd => ?_⟩)
            by_cases hji : j = i
            · subst hji; rw [List.getElem?_eq_getElem hi] at hjd; cases hjd
              refine ⟨fun e he => ?_, fun e he hv => ?_⟩
              · obtain ⟨q, hq, rfl⟩ := List.getElem_of_mem he
                exact hw1 q _ hq (List.getElem?_eq_getElem hq)
              · obtain ⟨q, hq, rfl⟩ := List.getElem_of_mem he
                exact hr1 q _ hq (List.getElem?_eq_getElem hq) hv
            · exact hall j d (by omega) hjd
      · rw [hs.len] at hc; simp at hc; omega
    · rintro _ H2 ⟨rfl, hall⟩
      refine wp_uI (wp_nl (wp_cond (fun hc => ?_) (fun _ => wp_ret ?_)))
      · rw [hs.len] at hc; simp at hc
      refine wp_nl (wp_ret (h true ⟨fun _ => ⟨hno', fun d hd => ?_⟩, fun _ => rfl⟩))
      obtain ⟨j, hj, rfl⟩ := List.getElem_of_mem hd
      exact hall j _ hj (List.getElem?_eq_getElem hj)
def Ints (H : Heap) (s : Sl) (l : List Int) : Prop := SlR H s 1 (l.map fun x => [I x])
theorem Ints.len {H : Heap} {s : Sl} {l : List Int} (h : Ints H s l) : s.len = l.length := by have := SlR.len h; simpa using this
theorem Ints.lt {H : Heap} {s : Sl} {l : List Int} (h : Ints H s l) : l.length ≤ 9223372036854775807 := by have := SlR.lt h; simpa using this
theorem Ints.at {H : Heap} {s : Sl} {l : List Int} (_ : Ints H s l) {i : Nat} (hi : i < l.length) : (l.map fun x => [I x])[((i : Nat) : Int).toNat]? = some [I l[i]] := by simp [hi]
theorem s30_wp {D : HV → List HV → M HV} {H : Heap} {Q : HV → Heap → Prop} {s : Sl} {l : List Int} (hs : Ints H s l) (x : Int)
    (h : ∀ n : Int, (n = -1 ∧ x ∉ l) ∨ (∃ i : Nat, n = i ∧ l[i]? = some x ∧ ∀ j, j < i → l[j]? ≠ some x) → Q (I n) H) : wp (f_slices_Index_int_int D [.sl s, I x]) Q H := by
  unfold f_slices_Index_int_int
  refine wp_fin (wp_uL (wp_uI (wp_nl ?_)))
  refine wp_blk ?_
  refine wp_range (σ := Unit) l.length (fun i _ => [I i]) (fun i _ H' => H' = H ∧ ∀ j, j < i → l[j]? ≠ some x) () rfl ⟨rfl, fun j hj => by omega⟩ ?_ ?_
  · rintro i _ H' hi ⟨rfl, hno⟩
    refine wp_uI (wp_nl (wp_cond (fun _ => ?_) (fun hc => ?_)))
    · refine wp_ixC hs (by omega) (hs.at hi) (fun _ _ => wp_asI ?_)
      refine wp_cond (fun c => wp_ret ?_) (fun c => wp_ret ?_)
      · refine h i (.inr ⟨i, rfl, ?_, hno⟩)
        rw [List.getElem?_eq_getElem hi]; simp at c; rw [c]
      · refine ⟨(), by rw [wr_succ hi hs.lt], rfl, fun j hj => ?_⟩
        by_cases hji : j = i
        · subst hji; rw [List.getElem?_eq_getElem hi]; simp at c; intro hh; cases hh; exact c rfl
        · exact hno j (by omega)
    · rw [hs.len] at hc; simp at hc; omega
  · rintro _ H' ⟨rfl, hno⟩
    refine wp_uI (wp_nl (wp_cond (fun hc => ?_) (fun _ => wp_ret ?_)))
    · rw [hs.len] at hc; simp at hc
    · refine wp_nl (wp_ret (h (-1) (.inl ⟨rfl, fun hm => ?_⟩)))
      obtain ⟨j, hj, he⟩ := List.getElem_of_mem hm
      exact hno j hj (by rw [List.getElem?_eq_getElem hj, he])
def Dd.val (d : Dd) : List En × List En := (d.r, d.w)
/-- a history that is made anew. -/
structure Made (H0 H : Heap) (s : Sl) (l : List Dd) : Prop where
  own : Own H0 H s 2 (l.map Dd.cs)
  ok : ∀ d ∈ l, Ents H d.rs d.r ∧ Ents H d.ws d.w
  apart : ∀ d ∈ l, d.rs.apart s ∧ d.ws.apart s
theorem Made.deeds {H0 H : Heap} {s : Sl} {l : List Dd} (h : Made H0 H s l) : Deeds H s l := ⟨h.own.slR, h.ok⟩
def place (e : En) : Nat := 0 + e.k.toNat * 8 + e.i.toNat * 1
theorem place_lt {least : Int} {e : En} (h : okE least e) : place e < 24 := by unfold okE at h; unfold place; omega
theorem place_alike {l1 l2 : Int} {a b : En} (ha : okE l1 a) (hb : okE l2 b) : place a = place b ↔ alike a b = true := by
  unfold okE at ha hb
  unfold place alike
  simp only [Bool.and_eq_true, beq_iff_eq]
  constructor
  · intro h; omega
  · rintro ⟨h1, h2⟩; rw [h1, h2]
theorem Single.nodup {l : List En} {least : Int} (h : Single l least) : l.Nodup := by
  unfold List.Nodup
  rw [List.pairwise_iff_getElem]
  intro i j hi hj hij he
  have h1 := h.2 j (l[j]) (List.getElem?_eq_getElem hj)
  have h2 := h1.2 i hij (l[j]) (by rw [← he, List.getElem?_eq_getElem hi])
  simp [alike] at h2
/-- does a deed need an older version of something that another one writes? -/
def Needs (d o : Dd) : Prop := ∃ w ∈ o.w, (∃ e ∈ d.r, alike e w = true ∧ e.v < w.v) ∨ ∃ e ∈ d.w, alike e w = true ∧ e.v < w.v
/-- a board: the versions of all things, by their places. -/
def Board (y : List HV) (f : Nat → Int) : Prop := y.length = 24 ∧ ∀ p, p < 24 → y[p]? = some (I (f p))
def OkR (l : List En) (least : Int) : Prop := ∀ e ∈ l, okE least e
theorem Single.okR {l : List En} {least : Int} (h : Single l least) : OkR l least := fun e he => by
  obtain ⟨j, hj, rfl⟩ := List.getElem_of_mem he
  exact (h.2 j _ (List.getElem?_eq_getElem hj)).1
/-- can a deed come next? -/
def Next (f : Nat → Int) (d : Dd) : Prop := (∀ e ∈ d.r, f (place e) = e.v) ∧ ∀ e ∈ d.w, f (place e) < e.v
/-- the versions behind some writes, in order. -/
def after (f : Nat → Int) (l : List En) : Nat → Int := l.foldl (fun g e p => if p = place e then e.v else g p) f
theorem after_succ (f : Nat → Int) (l : List En) {i : Nat} (hi : i < l.length) : after f (l.take (i + 1)) = fun p => if p = place l[i] then (l[i]).v else after f (l.take i) p := by
  unfold after
  rw [List.take_succ_eq_append_getElem hi, List.foldl_append]
  rfl
theorem repL_one (n : Nat) (x : HV) : repL n [x] = List.replicate n x := by cases n <;> rfl
/-- a slice of a function's own, of numbers: its block, its length. -/
structure Nums (H : Heap) (b : Nat) (w : List Int) : Prop where
  lt : b < H.n
  get : H.get b = .cells (w.map I) false
  len : w.length ≤ 9223372036854775807
def numSl (b : Nat) (n : Nat) : Sl := ⟨some (b, 0), n, n, none⟩
theorem Nums.ints {H : Heap} {b : Nat} {w : List Int} (h : Nums H b w) : Ints H (numSl b w.length) w := by
  refine ⟨by simp [numSl], by simpa using h.len, by simp [numSl], .inl rfl, by simp, .inr ⟨b, 0, _, false, rfl, h.lt, h.get, by simp, ?_⟩⟩
  have : ∀ w : List Int, (w.map fun x => [I x]).flatten = w.map I := by
    intro w
    induction w with
    | nil => rfl
    | cons x w ih => simp [ih]
  rw [this, List.drop_zero, List.length_map, Nat.mul_one, List.take_of_length_le (by simp)]
theorem Nums.set {H : Heap} {b : Nat} {w : List Int} (h : Nums H b w) (i : Nat) (v : Int) : Nums (H.set b (.cells ((w.map I).set i (I v)) false)) b (w.set i v) :=
  ⟨h.lt, by simp [Heap.set, List.map_set], by simpa using h.len⟩
section
variable {α : Type} {Q : α → Heap → Prop} {H : Heap}
/-- an element is read, and written. -/
theorem wp_numget {b : Nat} {w : List Int} (h : Nums H b w) {s : Sl} (hs : s = numSl b w.length) {i : Int} (h0 : 0 ≤ i) (hi : i.toNat < w.length) {g : Nat → Nat → HV → M α} (hg : ∀ b o, wp (g b o (I w[i.toNat])) Q H) :
    wp (ix s i 1 fun b o => ldC b o fun c => g b o c) Q H := by
  subst hs
  exact wp_ixC h.ints h0 (by simp [hi]) hg
theorem wp_numset {b : Nat} {w : List Int} (h : Nums H b w) {s : Sl} (hs : s = numSl b w.length) {i : Int} (h0 : 0 ≤ i) (hi : i.toNat < w.length) {v : Int} {m : M α}
    (hm : Nums (H.set b (.cells ((w.map I).set i.toNat (I v)) false)) b (w.set i.toNat v) → wp m Q (H.set b (.cells ((w.map I).set i.toNat (I v)) false))) :
    wp (ix s i 1 fun b o => stC b o (I v) m) Q H := by
  subst hs
  unfold ix
  refine wp_gd (by simpa using h0) (wp_gd (by show decide (i < (w.length : Int)) = true; simp only [decide_eq_true_eq]; omega) ?_)
  show wp (mP (some (b, 0)) _) Q H
  rw [mP_eq']
  refine wp_stC (o := 0 + i.toNat * 1) h.get (by simp only [List.length_map]; omega) rfl ?_
  rw [Nat.zero_add, Nat.mul_one]
  exact hm (h.set _ _)
end
open Classical
/-- how many of S must come ahead of k. -/
noncomputable def waitN (A : Nat → Nat → Prop) (S : Nat → Prop) (n k : Nat) : Nat := (List.range n).countP fun i => decide (S i ∧ i ≠ k ∧ A i k)
theorem waitN_zero {A : Nat → Nat → Prop} {S : Nat → Prop} {n k : Nat} : waitN A S n k = 0 ↔ ∀ i, i < n → S i → i ≠ k → ¬ A i k := by
  unfold waitN
  rw [List.countP_eq_zero]
  simp only [List.mem_range, decide_eq_true_eq, not_and]
theorem waitN_le {A : Nat → Nat → Prop} {S : Nat → Prop} {n k : Nat} : waitN A S n k ≤ n := by
  unfold waitN
  exact Nat.le_trans List.countP_le_length (by simp)
theorem waitN_none {A : Nat → Nat → Prop} {n k : Nat} : waitN A (fun i => i < 0) n k = 0 := waitN_zero.2 fun i _ h => by omega
/-- one more. -/
theorem waitN_add {A : Nat → Nat → Prop} {S S' : Nat → Prop} {n k a : Nat} (ha : a < n) (hS : ¬ S a) (hS' : ∀ i, S' i ↔ S i ∨ i = a) :
    waitN A S' n k = waitN A S n k + if a ≠ k ∧ A a k then 1 else 0 := by
  unfold waitN
  have key : ∀ m, m ≤ n → (List.range m).countP (fun i => decide (S' i ∧ i ≠ k ∧ A i k)) = (List.range m).countP (fun i => decide (S i ∧ i ≠ k ∧ A i k)) + if a < m ∧ a ≠ k ∧ A a k then 1 else 0 := by
    intro m
    induction m with
    | zero => intro _; simp
    | succ m ih =>
      intro hm
      rw [List.range_succ, List.countP_append, List.countP_append, ih (by omega)]
      simp only [List.countP_singleton, decide_eq_true_eq]
      by_cases hma : m = a
      · subst hma
        have h1 : S' m := (hS' m).2 (.inr rfl)
        simp only [h1, hS, true_and, false_and, if_false, Nat.lt_irrefl, Nat.lt_succ_self]
        try omega
      · have h1 : S' m ↔ S m := by rw [hS']; simp [hma]
        rw [h1]
        have h2 : (a < m + 1 ∧ a ≠ k ∧ A a k) ↔ (a < m ∧ a ≠ k ∧ A a k) := by
          constructor
          · rintro ⟨q, r⟩; exact ⟨by omega, r⟩
          · rintro ⟨q, r⟩; exact ⟨by omega, r⟩
        simp only [h2]
        omega
  have := key n (Nat.le_refl _)
  simpa [ha] using this
open Classical
def Ahd (l : List Dd) (i k : Nat) : Prop := ∃ a b, l[i]? = some a ∧ l[k]? = some b ∧ Ahead a b
theorem ahd_iff {l : List Dd} {i k : Nat} (hi : i < l.length) (hk : k < l.length) : Ahd l i k ↔ Ahead l[i] l[k] := by
  unfold Ahd
  rw [List.getElem?_eq_getElem hi, List.getElem?_eq_getElem hk]
  constructor
  · rintro ⟨a, b, h1, h2, h3⟩; cases h1; cases h2; exact h3
  · intro h; exact ⟨_, _, rfl, rfl, h⟩
/-- can k be next, where those of S are done? -/
def Pick (A : Nat → Nat → Prop) (n : Nat) (S : List Nat) (k : Nat) : Prop := k < n ∧ k ∉ S ∧ ∀ i, i < n → i ∉ S → i ≠ k → ¬ A i k
def Chain (A : Nat → Nat → Prop) (n : Nat) (S : List Nat) : Prop := ∀ (t k : Nat), S[t]? = some k → Pick A n (S.take t) k ∧ ∀ j, j < k → ¬ Pick A n (S.take t) j
theorem Chain.snoc {A : Nat → Nat → Prop} {n : Nat} {S : List Nat} (h : Chain A n S) {k : Nat} (hk : Pick A n S k) (hj : ∀ j, j < k → ¬ Pick A n S j) : Chain A n (S ++ [k]) := by
  intro t x e
  rcases Nat.lt_or_ge t S.length with ht | ht
  · rw [List.getElem?_append_left ht] at e
    rw [List.take_append_of_le_length (by omega)]
    exact h t x e
  · rw [List.getElem?_append_right ht] at e
    have : t = S.length := by
      rcases Nat.lt_or_ge S.length t with h2 | h2
      · rw [List.getElem?_eq_none (by simp; omega)] at e; cases e
      · omega
    subst this
    simp at e; subst e
    rw [List.take_left]
    exact ⟨hk, hj⟩
theorem set_eq_of {w w' : List Int} {n k : Nat} {v : Int} (hw : w.length = n) (hw' : w'.length = n) (hk : k < n) (h1 : w'[k]? = some v) (h2 : ∀ j, j < n → j ≠ k → w'[j]? = w[j]?) : w.set k v = w' := by
  apply List.ext_getElem?
  intro j
  by_cases hj : j = k
  · subst hj; rw [List.getElem?_set_self (by omega), h1]
  · rw [List.getElem?_set_ne (Ne.symm hj)]
    by_cases hjn : j < n
    · exact (h2 j hjn hj).symm
    · rw [List.getElem?_eq_none (by omega), List.getElem?_eq_none (by omega)]
/-- the first rounds: who waits for how many. -/
noncomputable def w1 (A : Nat → Nat → Prop) (n i kk : Nat) : List Int := (List.range n).map fun k => ((waitN A (fun j => j < i) n k + if k < kk ∧ i ≠ k ∧ A i k then 1 else 0 : Nat) : Int)
theorem w1_len {A : Nat → Nat → Prop} {n i kk : Nat} : (w1 A n i kk).length = n := by simp [w1]
theorem w1_get {A : Nat → Nat → Prop} {n i kk k : Nat} (hk : k < n) : (w1 A n i kk)[k]? = some ((waitN A (fun j => j < i) n k + if k < kk ∧ i ≠ k ∧ A i k then 1 else 0 : Nat) : Int) := by
  simp [w1, hk]
theorem w1_next {A : Nat → Nat → Prop} {n i : Nat} (hi : i < n) : w1 A n i n = w1 A n (i + 1) 0 := by
  unfold w1
  apply List.map_congr_left
  intro k hk
  have hk : k < n := by simpa using hk
  rw [waitN_add (S := fun j => j < i) (S' := fun j => j < i + 1) hi (by omega) (fun j => by omega)]
  simp [hk]
open Classical
theorem s18_first {H : Heap} {s : Sl} {l : List Dd} (hs : Deeds H s l) (hn : l.length ≤ 1000) {D : HV → List HV → M HV} {fv : HV}
    (hD : ∀ (H' : Heap) (i k : Nat) (hi : i < l.length) (hk : k < l.length), Keeps H H' → ∀ R : HV → Heap → Prop, (∀ x : Bool, (x = true ↔ Ahead l[i] l[k]) → R (.bool x) H') → wp (D fv [.agg (l[i]).cs, .agg (l[k]).cs]) R H')
    {H1 : Heap} (hk1 : Keeps H H1) {b : Nat} (hb : H.n ≤ b) {i : Nat} (hi : i < l.length) (hw : Nums H1 b (w1 (Ahd l) l.length i 0)) {Q : Leaf → Heap → Prop} {K : List HV → M Leaf}
    (hq : ∀ H2, Keeps H H2 → Nums H2 b (w1 (Ahd l) l.length (i + 1) 0) → wp (K []) Q H2) {body : List HV → M Leaf}
    (hbody : body = fun vs => uI .i64 vs fun x27 r_5 => nl r_5 (cond (decide (x27 < (s.len : Int))) (blk 3 (ix s x27 2 fun x30b x30o => ldN x30b x30o 2 fun x31l => uL x31l fun x31c0 r_6 => uL r_6 fun x31c1 r_7 => nl r_7 (
      jn (cond ((i : Int) != x27) (bnd (D fv [.agg (l[i]).cs, .agg [.sl x31c0, .sl x31c1]]) fun r_8 => asB r_8 fun x39 => ret (.norm [.bool x39])) (ret (.norm [.bool false]))) fun vs_5 => uB vs_5 fun x40 r_9 => nl r_9 (
      cond x40 (ix (⟨some (b, 0), (s.len : Int).toNat, (s.len : Int).toNat, none⟩) x27 1 fun x43b x43o => ldC x43b x43o fun v => asI .i64 v fun x44 =>
        ix (⟨some (b, 0), (s.len : Int).toNat, (s.len : Int).toNat, none⟩) x27 1 fun x46b x46o => stC x46b x46o (I (wr (x44 + 1))) (ret (.norm []))) (ret (.norm []))))) fun vs_4 => nl vs_4 (ret (.norm [I (wr (x27 + 1))]))) (ret (.exit 2 [])))) :
    wp (blk 2 (loopD body [I 0]) K) Q H1 := by
  subst hbody
  refine wp_blk ?_
  refine wp_range (σ := Unit) l.length (fun k _ => [I k]) (fun k _ H' => Keeps H H' ∧ Nums H' b (w1 (Ahd l) l.length i k)) () rfl ⟨hk1, hw⟩ ?_ ?_
  · rintro k _ H' hk ⟨hkp, hnm⟩
    have hs' := hs.sl.keeps hkp
    have hsl : (⟨some (b, 0), (s.len : Int).toNat, (s.len : Int).toNat, none⟩ : Sl) = numSl b (w1 (Ahd l) l.length i k).length := by
      rw [w1_len, hs.len]; simp [numSl]
    refine wp_uI (wp_nl (wp_cond (fun _ => ?_) (fun hc => ?_)))
    · refine wp_blk ?_
      refine wp_ixN hs' (by omega) (hs.at hk) (fun _ _ => wp_uL (wp_uL (wp_nl ?_)))
      refine wp_jn (wp.mono (Q := LB (i ≠ k ∧ Ahd l i k) H') ?_ ?_)
      · refine wp_cond (fun c => ?_) (fun c => wp_ret (.mk _ ?_))
        · have hik : i ≠ k := by intro hh; subst hh; simp at c
          refine wp_bnd (hD H' i k hi hk hkp _ fun x hx => ?_)
          refine wp_asB (wp_ret (.mk _ ?_))
          rw [hx, ahd_iff hi hk]
          exact ⟨fun h => ⟨hik, h⟩, fun h => h.2⟩
        · have hik : i = k := by simp at c; omega
          exact ⟨fun h => (by cases h), fun h => absurd hik h.1⟩
      · rintro _ H3 ⟨x, rfl, hx, rfl⟩
        refine wp_uB (wp_nl (wp_cond (fun c => ?_) (fun c => wp_ret ?_)))
        · have hcond := hx.1 c
          have hlt : (k : Int).toNat < (w1 (Ahd l) l.length i k).length := by rw [w1_len]; simpa using hk
          refine wp_numget hnm hsl (by omega) hlt (fun _ _ => wp_asI ?_)
          refine wp_numset hnm hsl (by omega) hlt (fun hn2 => wp_ret ?_)
          refine wp_nl (wp_ret ⟨(), by rw [wr_succ hk hs.lt], hkp.set hb _, ?_⟩)
          have hget := w1_get (A := Ahd l) (n := l.length) (i := i) (kk := k) hk
          have hval : (w1 (Ahd l) l.length i k)[(k : Int).toNat] = ((waitN (Ahd l) (fun j => j < i) l.length k : Nat) : Int) := by
            have h2 : (w1 (Ahd l) l.length i k)[(k : Int).toNat]? = some ((waitN (Ahd l) (fun j => j < i) l.length k : Nat) : Int) := by
              simpa using hget
            rw [List.getElem?_eq_getElem hlt] at h2
            exact Option.some.inj h2
          have hle : waitN (Ahd l) (fun j => j < i) l.length k ≤ l.length := waitN_le
          have heq : (w1 (Ahd l) l.length i k).set (k : Int).toNat (wr ((w1 (Ahd l) l.length i k)[(k : Int).toNat] + 1)) = w1 (Ahd l) l.length i (k + 1) := by
            refine set_eq_of w1_len w1_len (by simpa using hk) ?_ ?_
            · rw [hval, wr_small (by omega) (by omega)]
              simp only [Int.toNat_natCast]
              rw [w1_get hk, if_pos ⟨by omega, hcond⟩]; rfl
            · intro j hj hjk
              simp only [Int.toNat_natCast] at hjk
              rw [w1_get hj, w1_get hj]
              have : (j < k + 1 ∧ i ≠ j ∧ Ahd l i j) ↔ (j < k ∧ i ≠ j ∧ Ahd l i j) := by
                constructor
                · rintro ⟨q, r⟩; exact ⟨by omega, r⟩
                · rintro ⟨q, r⟩; exact ⟨by omega, r⟩
              simp only [this]
          rw [← heq]
          exact hn2
        · refine wp_nl (wp_ret ⟨(), by rw [wr_succ hk hs.lt], hkp, ?_⟩)
          have hcond : ¬ (i ≠ k ∧ Ahd l i k) := fun hh => by have := hx.2 hh; rw [c] at this; cases this
          have heq : w1 (Ahd l) l.length i k = w1 (Ahd l) l.length i (k + 1) := by
            apply List.ext_getElem?
            intro j
            by_cases hj : j < l.length
            · rw [w1_get hj, w1_get hj]
              have : (j < k + 1 ∧ i ≠ j ∧ Ahd l i j) ↔ (j < k ∧ i ≠ j ∧ Ahd l i j) := by
                constructor
                · rintro ⟨q, r⟩
                  refine ⟨?_, r⟩
                  rcases Nat.lt_or_ge j k with h2 | h2
                  · exact h2
                  · have : j = k := by omega
                    subst this; exact absurd r hcond
                · rintro ⟨q, r⟩; exact ⟨by omega, r⟩
              simp only [this]
            · rw [List.getElem?_eq_none (by rw [w1_len]; omega), List.getElem?_eq_none (by rw [w1_len]; omega)]
          rw [← heq]; exact hnm
    · rw [hs.len] at hc; simp at hc; omega
  · rintro _ H' ⟨hkp, hnm⟩
    refine wp_uI (wp_nl (wp_cond (fun hc => ?_) (fun _ => wp_ret ?_)))
    · rw [hs.len] at hc; simp at hc
    · rw [w1_next hi] at hnm
      exact hq H' hkp hnm
open Classical
noncomputable def w2 (A : Nat → Nat → Prop) (u : List Int) (n nx kk : Nat) : List Int := (List.range n).map fun k => u.getD k 0 - (if k < kk ∧ k ≠ nx ∧ A nx k then 1 else 0)
theorem w2_len {A : Nat → Nat → Prop} {u : List Int} {n nx kk : Nat} : (w2 A u n nx kk).length = n := by simp [w2]
theorem w2_get {A : Nat → Nat → Prop} {u : List Int} {n nx kk k : Nat} (hk : k < n) : (w2 A u n nx kk)[k]? = some (u.getD k 0 - (if k < kk ∧ k ≠ nx ∧ A nx k then 1 else 0)) := by
  simp [w2, hk]
theorem w2_zero {A : Nat → Nat → Prop} {u : List Int} {n nx : Nat} (hu : u.length = n) : w2 A u n nx 0 = u := by
  apply List.ext_getElem?
  intro j
  by_cases hj : j < n
  · rw [w2_get hj, if_neg (by omega)]
    rw [List.getElem?_eq_getElem (by omega)]
    simp [List.getD_eq_getElem?_getD, List.getElem?_eq_getElem (show j < u.length by omega)]
  · rw [List.getElem?_eq_none (by rw [w2_len]; omega), List.getElem?_eq_none (by omega)]
theorem s18_second {H : Heap} {s : Sl} {l : List Dd} (hs : Deeds H s l) {D : HV → List HV → M HV} {fv : HV}
    (hD : ∀ (H' : Heap) (i k : Nat) (hi : i < l.length) (hk : k < l.length), Keeps H H' → ∀ R : HV → Heap → Prop, (∀ x : Bool, (x = true ↔ Ahead l[i] l[k]) → R (.bool x) H') → wp (D fv [.agg (l[i]).cs, .agg (l[k]).cs]) R H')
    {H1 : Heap} {b : Nat} (hb : H.n ≤ b) {nx : Nat} (hi : nx < l.length) {u : List Int} (hul : u.length = l.length) (hub : ∀ x ∈ u, -100000 ≤ x ∧ x ≤ 100000) (P : Heap → Prop) (hk1 : Keeps H H1) (hP : P H1)
    (hPs : ∀ H' c, Keeps H H' → P H' → P (H'.set b c)) (hw : Nums H1 b u) {Q : Leaf → Heap → Prop} {K : List HV → M Leaf}
    (hq : ∀ H2, Keeps H H2 → P H2 → Nums H2 b (w2 (Ahd l) u l.length nx l.length) → wp (K []) Q H2) {body : List HV → M Leaf} {x54 : Int} (hx54 : x54 = nx)
    (hbody : body = fun vs => uI .i64 vs fun x62 r_13 => nl r_13 (cond (decide (x62 < (s.len : Int))) (blk 7 (ix s x62 2 fun x65b x65o => ldN x65b x65o 2 fun x66l => uL x66l fun x66c0 r_14 => uL r_14 fun x66c1 r_15 => nl r_15 (
      jn (cond (x62 != x54) (ix s x54 2 fun x74b x74o => ldN x74b x74o 2 fun x75l => uL x75l fun x75c0 r_16 => uL r_16 fun x75c1 r_17 => nl r_17 (bnd (D fv [.agg [.sl x75c0, .sl x75c1], .agg [.sl x66c0, .sl x66c1]]) fun r_18 => asB r_18 fun x77 => ret (.norm [.bool x77]))) (ret (.norm [.bool false]))) fun vs_11 => uB vs_11 fun x78 r_19 => nl r_19 (
      cond x78 (ix (⟨some (b, 0), (s.len : Int).toNat, (s.len : Int).toNat, none⟩) x62 1 fun x81b x81o => ldC x81b x81o fun v_1 => asI .i64 v_1 fun x82 =>
        ix (⟨some (b, 0), (s.len : Int).toNat, (s.len : Int).toNat, none⟩) x62 1 fun x84b x84o => stC x84b x84o (I (wr (x82 - 1))) (ret (.norm []))) (ret (.norm []))))) fun vs_10 => nl vs_10 (ret (.norm [I (wr (x62 + 1))]))) (ret (.exit 6 [])))) :
    wp (blk 6 (loopD body [I 0]) K) Q H1 := by
  subst hbody; subst hx54
  refine wp_blk ?_
  refine wp_range (σ := Unit) l.length (fun k _ => [I k]) (fun k _ H' => Keeps H H' ∧ P H' ∧ Nums H' b (w2 (Ahd l) u l.length nx k)) () rfl ⟨hk1, hP, by rw [w2_zero hul]; exact hw⟩ ?_ ?_
  · rintro k _ H' hk ⟨hkp, hPp, hnm⟩
    have hs' := hs.sl.keeps hkp
    have hsl : (⟨some (b, 0), (s.len : Int).toNat, (s.len : Int).toNat, none⟩ : Sl) = numSl b (w2 (Ahd l) u l.length nx k).length := by
      rw [w2_len, hs.len]; simp [numSl]
    refine wp_uI (wp_nl (wp_cond (fun _ => ?_) (fun hc => ?_)))
    · refine wp_blk ?_
      refine wp_ixN hs' (by omega) (hs.at hk) (fun _ _ => wp_uL (wp_uL (wp_nl ?_)))
      refine wp_jn (wp.mono (Q := LB (k ≠ nx ∧ Ahd l nx k) H') ?_ ?_)
      · refine wp_cond (fun c => ?_) (fun c => wp_ret (.mk _ ?_))
        · have hik : k ≠ nx := by intro hh; subst hh; simp at c
          refine wp_ixN hs' (by omega) (hs.at hi) (fun _ _ => wp_uL (wp_uL (wp_nl ?_)))
          refine wp_bnd (hD H' nx k hi hk hkp _ fun x hx => ?_)
          refine wp_asB (wp_ret (.mk _ ?_))
          rw [hx, ahd_iff hi hk]
          exact ⟨fun h => ⟨hik, h⟩, fun h => h.2⟩
        · have hik : k = nx := by simp at c; omega
          exact ⟨fun h => (by cases h), fun h => absurd hik h.1⟩
      · rintro _ H3 ⟨x, rfl, hx, rfl⟩
        refine wp_uB (wp_nl (wp_cond (fun c => ?_) (fun c => wp_ret ?_)))
        · have hcond := hx.1 c
          have hlt : (k : Int).toNat < (w2 (Ahd l) u l.length nx k).length := by rw [w2_len]; simpa using hk
          refine wp_numget hnm hsl (by omega) hlt (fun _ _ => wp_asI ?_)
          refine wp_numset hnm hsl (by omega) hlt (fun hn2 => wp_ret ?_)
          refine wp_nl (wp_ret ⟨(), by rw [wr_succ hk hs.lt], hkp.set hb _, hPs _ _ hkp hPp, ?_⟩)
          have hget := w2_get (A := Ahd l) (u := u) (n := l.length) (nx := nx) (kk := k) hk
          have hval : (w2 (Ahd l) u l.length nx k)[(k : Int).toNat] = u.getD k 0 := by
            have h2 : (w2 (Ahd l) u l.length nx k)[(k : Int).toNat]? = some (u.getD k 0) := by
              simpa using hget
            rw [List.getElem?_eq_getElem hlt] at h2
            exact Option.some.inj h2
          have hbd : -100000 ≤ u.getD k 0 ∧ u.getD k 0 ≤ 100000 := by
            have hku : k < u.length := by omega
            rw [List.getD_eq_getElem?_getD, List.getElem?_eq_getElem hku]
            exact hub _ (List.getElem_mem hku)
          have heq : (w2 (Ahd l) u l.length nx k).set (k : Int).toNat (wr ((w2 (Ahd l) u l.length nx k)[(k : Int).toNat] - 1)) = w2 (Ahd l) u l.length nx (k + 1) := by
            refine set_eq_of w2_len w2_len (by simpa using hk) ?_ ?_
            · rw [hval, wr_small (by omega) (by omega)]
              simp only [Int.toNat_natCast]
              rw [w2_get hk, if_pos ⟨by omega, hcond⟩]
            · intro j hj hjk
              simp only [Int.toNat_natCast] at hjk
              rw [w2_get hj, w2_get hj]
              have : (j < k + 1 ∧ j ≠ nx ∧ Ahd l nx j) ↔ (j < k ∧ j ≠ nx ∧ Ahd l nx j) := by
                constructor
                · rintro ⟨q, r⟩; exact ⟨by omega, r⟩
                · rintro ⟨q, r⟩; exact ⟨by omega, r⟩
              simp only [this]
          rw [← heq]
          exact hn2
        · refine wp_nl (wp_ret ⟨(), by rw [wr_succ hk hs.lt], hkp, hPp, ?_⟩)
          have hcond : ¬ (k ≠ nx ∧ Ahd l nx k) := fun hh => by have := hx.2 hh; rw [c] at this; cases this
          have heq : w2 (Ahd l) u l.length nx k = w2 (Ahd l) u l.length nx (k + 1) := by
            apply List.ext_getElem?
            intro j
            by_cases hj : j < l.length
            · rw [w2_get hj, w2_get hj]
              have : (j < k + 1 ∧ j ≠ nx ∧ Ahd l nx j) ↔ (j < k ∧ j ≠ nx ∧ Ahd l nx j) := by
                constructor
                · rintro ⟨q, r⟩
                  refine ⟨?_, r⟩
                  rcases Nat.lt_or_ge j k with h2 | h2
                  · exact h2
                  · have : j = k := by omega
                    subst this; exact absurd r hcond
                · rintro ⟨q, r⟩; exact ⟨by omega, r⟩
              simp only [this]
            · rw [List.getElem?_eq_none (by rw [w2_len]; omega), List.getElem?_eq_none (by rw [w2_len]; omega)]
          rw [← heq]; exact hnm
    · rw [hs.len] at hc; simp at hc; omega
  · rintro _ H' ⟨hkp, hPp, hnm⟩
    refine wp_uI (wp_nl (wp_cond (fun hc => ?_) (fun _ => wp_ret ?_)))
    · rw [hs.len] at hc; simp at hc
    · exact hq H' hkp hPp hnm
open Classical
theorem Own.set {H0 H : Heap} {s : Sl} {sz : Nat} {ls : List (List HV)} (h : Own H0 H s sz ls) {b : Nat} (hb : H0.n ≤ b) (hs : s.p ≠ some (b, 0)) (c : HObj) : Own H0 (H.set b c) s sz ls :=
  ⟨h.keeps.set hb c, h.szs, h.lt, by
    rcases h.mem with h1 | ⟨b2, h1, h2, h3, h4⟩
    · exact .inl h1
    · refine .inr ⟨b2, h1, h2, h3, ?_⟩
      simp only [Heap.set]
      rw [if_neg]
      · exact h4
      · rintro rfl; exact hs (by rw [h1])⟩
theorem Nums.besides {H H' : Heap} {b : Nat} {w : List Int} (h : Nums H b w) (hn : H.n ≤ H'.n) (hg : H'.get b = H.get b) : Nums H' b w := ⟨Nat.lt_of_lt_of_le h.lt hn, by rw [hg]; exact h.get, h.len⟩
/-- what the numbers are, where those of S are done. -/
def WS (A : Nat → Nat → Prop) (n : Nat) (S : List Nat) (w : List Int) : Prop := w.length = n ∧ ∀ k, k < n → (k ∉ S → w[k]? = some ((waitN A (fun i => i ∉ S) n k : Nat) : Int)) ∧ (k ∈ S → ∃ v : Int, w[k]? = some v ∧ v < 0 ∧ -1 - (S.length : Int) ≤ v)
theorem WS.start {A : Nat → Nat → Prop} {n : Nat} : WS A n [] (w1 A n n 0) := by
  refine ⟨w1_len, fun k hk => ⟨fun _ => ?_, fun h => by cases h⟩⟩
  rw [w1_get hk, if_neg (by omega)]
  have : waitN A (fun j => j < n) n k = waitN A (fun i => i ∉ []) n k := by
    unfold waitN
    refine List.countP_congr fun i hi => ?_
    have : i < n := by simpa using hi
    simp [this]
  rw [this]; rfl
theorem WS.pick {A : Nat → Nat → Prop} {n : Nat} {S : List Nat} {w : List Int} (h : WS A n S w) (k : Nat) : Pick A n S k ↔ w[k]? = some 0 := by
  constructor
  · rintro ⟨h1, h2, h3⟩
    rw [(h.2 k h1).1 h2, waitN_zero.2 fun i hi hs hik => h3 i hi hs hik]; rfl
  · intro e
    have hk : k < n := by
      rw [← h.1]; exact (List.getElem?_eq_some_iff.1 e).1
    by_cases hs : k ∈ S
    · obtain ⟨v, h1, h2, _⟩ := (h.2 k hk).2 hs
      rw [e] at h1; cases h1; omega
    · have h1 := (h.2 k hk).1 hs
      rw [e] at h1
      have h2 : waitN A (fun i => i ∉ S) n k = 0 := by
        have := Option.some.inj h1; omega
      exact ⟨hk, hs, fun i hi hns hik => waitN_zero.1 h2 i hi hns hik⟩
theorem WS.next {A : Nat → Nat → Prop} {n : Nat} {S : List Nat} {w : List Int} (h : WS A n S w) {i : Nat} (hi : i < n) (hS : i ∉ S) : WS A n (S ++ [i]) (w2 A (w.set i (-1)) n i n) := by
  refine ⟨w2_len, fun k hk => ⟨fun hks => ?_, fun hks => ?_⟩⟩
  · have hk1 : k ∉ S := fun hh => hks (List.mem_append_left _ hh)
    have hk2 : k ≠ i := fun hh => hks (by simp [hh])
    have h1 := (h.2 k hk).1 hk1
    have h2 : waitN A (fun j => j ∉ S) n k = waitN A (fun j => j ∉ S ++ [i]) n k + if i ≠ k ∧ A i k then 1 else 0 :=
      waitN_add hi (by simp) (fun j => by
        by_cases hj : j = i
        · subst hj; simp [hS]
        · simp [hj])
    rw [w2_get hk, List.getD_eq_getElem?_getD, List.getElem?_set_ne (Ne.symm hk2), h1]
    simp only [Option.getD_some]
    congr 1
    rw [h2]
    by_cases hc : A i k
    · rw [if_pos ⟨Ne.symm hk2, hc⟩, if_pos ⟨hk, hk2, hc⟩]; omega
    · rw [if_neg (fun q => hc q.2), if_neg (fun q => hc q.2.2)]; omega
  · rw [w2_get hk, List.getD_eq_getElem?_getD]
    by_cases hki : k = i
    · subst hki
      rw [List.getElem?_set_self (by rw [h.1]; exact hk), if_neg (fun q => q.2.1 rfl)]
      exact ⟨_, rfl, by simp, by simp only [Option.getD_some, List.length_append, List.length_singleton]; omega⟩
    · have hk1 : k ∈ S := by
        rcases List.mem_append.1 hks with hh | hh
        · exact hh
        · simp at hh; exact absurd hh hki
      obtain ⟨v, h1, h2, h3⟩ := (h.2 k hk).2 hk1
      rw [List.getElem?_set_ne (Ne.symm hki), h1]
      refine ⟨_, rfl, ?_, ?_⟩
      · simp only [Option.getD_some]; split <;> omega
      · simp only [Option.getD_some, List.length_append, List.length_singleton]; split <;> omega
theorem WS.bound {A : Nat → Nat → Prop} {n : Nat} {S : List Nat} {w : List Int} (h : WS A n S w) (hn : n ≤ 1000) (hS : S.length ≤ 1000) : ∀ x ∈ w, -2000 ≤ x ∧ x ≤ 2000 := by
  intro x hx
  obtain ⟨k, hk, rfl⟩ := List.getElem_of_mem hx
  have hkn : k < n := by rw [← h.1]; exact hk
  by_cases hs : k ∈ S
  · obtain ⟨v, h1, h2, h3⟩ := (h.2 k hkn).2 hs
    rw [List.getElem?_eq_getElem hk] at h1
    have := Option.some.inj h1; omega
  · have h1 := (h.2 k hkn).1 hs
    rw [List.getElem?_eq_getElem hk] at h1
    have := Option.some.inj h1
    have hw : waitN A (fun i => i ∉ S) n k ≤ n := waitN_le
    omega
open Classical
/-- the versions behind some deeds, in order. -/
def stepN (l : List Dd) (f : Nat → Int) (i : Nat) : Nat → Int := match l[i]? with
  | some d => after f d.w
  | none => f
def nowS (l : List Dd) (S : List Nat) : Nat → Int := S.foldl (stepN l) (fun _ => 0)
theorem nowS_snoc (l : List Dd) (S : List Nat) (i : Nat) : nowS l (S ++ [i]) = stepN l (nowS l S) i := by simp [nowS, List.foldl_append]
theorem nowS_snoc' {l : List Dd} {S : List Nat} {i : Nat} {d : Dd} (h : l[i]? = some d) : nowS l (S ++ [i]) = after (nowS l S) d.w := by
  rw [nowS_snoc]; unfold stepN; rw [h]
theorem after_cons (f : Nat → Int) (e : En) (l : List En) : after f (e :: l) = after (fun p => if p = place e then e.v else f p) l := rfl
theorem after_not {l : List En} : ∀ {f : Nat → Int} {p : Nat}, (∀ e ∈ l, place e ≠ p) → after f l p = f p := by
  induction l with
  | nil => intros; rfl
  | cons e l ih =>
    intro f p h
    rw [after_cons, ih fun x hx => h x (List.mem_cons_of_mem _ hx)]
    rw [if_neg (Ne.symm (h e List.mem_cons_self))]
/-- none of one thing with another. -/
def Uniq (l : List En) : Prop := l.Pairwise fun a b => place a ≠ place b
theorem Single.uniq {l : List En} {least : Int} (h : Single l least) : Uniq l := by
  unfold Uniq
  rw [List.pairwise_iff_getElem]
  intro i j hi hj hij he
  have h1 := h.2 j (l[j]) (List.getElem?_eq_getElem hj)
  have h2 := h1.2 i hij (l[i]) (List.getElem?_eq_getElem hi)
  have h3 := h.2 i (l[i]) (List.getElem?_eq_getElem hi)
  rw [(place_alike h1.1 h3.1).1 he.symm] at h2
  cases h2
theorem after_mem {l : List En} : ∀ {f : Nat → Int} (_ : Uniq l) {e : En}, e ∈ l → after f l (place e) = e.v := by
  induction l with
  | nil => intro f _ e h; cases h
  | cons x l ih =>
    intro f hu e he
    unfold Uniq at hu
    rw [List.pairwise_cons] at hu
    rw [after_cons]
    rcases List.mem_cons.1 he with rfl | he
    · rw [after_not fun y hy => (hu.1 y hy).symm, if_pos rfl]
    · exact ih hu.2 he
theorem after_cases {l : List En} (f : Nat → Int) (hu : Uniq l) (p : Nat) : (after f l p = f p ∧ ∀ e ∈ l, place e ≠ p) ∨ ∃ e ∈ l, place e = p ∧ after f l p = e.v := by
  rcases Classical.em (∃ e ∈ l, place e = p) with ⟨e, he, rfl⟩ | h
  · exact .inr ⟨e, he, rfl, after_mem hu he⟩
  · have : ∀ e ∈ l, place e ≠ p := fun e he hp => h ⟨e, he, hp⟩
    exact .inl ⟨after_not this, this⟩
theorem en_eq {a b : En} (h : alike a b = true) (hv : a.v = b.v) : a = b := by
  unfold alike at h
  simp only [Bool.and_eq_true, beq_iff_eq] at h
  obtain ⟨h1, h2⟩ := h
  cases a; cases b
  simp only at h1 h2 hv
  subst h1; subst h2; subst hv; rfl
/-! of a history that can be -/
structure Hist (l : List Dd) : Prop where
  can : CanP l
theorem Hist.rs {l : List Dd} (h : Hist l) {i : Nat} {d : Dd} (hd : l[i]? = some d) : Single d.r 0 := (h.can.1 d (List.mem_of_getElem? hd)).1
theorem Hist.ws {l : List Dd} (h : Hist l) {i : Nat} {d : Dd} (hd : l[i]? = some d) : Single d.w 1 := (h.can.1 d (List.mem_of_getElem? hd)).2
theorem Hist.okr {l : List Dd} (h : Hist l) {i : Nat} {d : Dd} (hd : l[i]? = some d) {e : En} (he : e ∈ d.r) : okE 0 e := (h.rs hd).okR e he
theorem Hist.okw {l : List Dd} (h : Hist l) {i : Nat} {d : Dd} (hd : l[i]? = some d) {e : En} (he : e ∈ d.w) : okE 1 e := (h.ws hd).okR e he
theorem countP_two {α : Type} {p : α → Bool} {l : List α} {i j : Nat} {a b : α} (hij : i < j) (hi : l[i]? = some a) (hj : l[j]? = some b) (ha : p a = true) (hb : p b = true) : 2 ≤ l.countP p := by
  have hi' := List.getElem?_eq_some_iff.1 hi
  have hj' := List.getElem?_eq_some_iff.1 hj
  obtain ⟨hi1, hi2⟩ := hi'
  obtain ⟨hj1, hj2⟩ := hj'
  have h1 : 0 < (l.take j).countP p := List.countP_pos_iff.2 ⟨a, by
    rw [List.mem_take_iff_getElem]
    exact ⟨i, by omega, hi2⟩, ha⟩
  have h2 : 0 < (l.drop j).countP p := List.countP_pos_iff.2 ⟨b, by
    rw [List.mem_drop_iff_getElem]
    exact ⟨0, by omega, by simpa using hj2⟩, hb⟩
  have h3 : l.countP p = (l.take j).countP p + (l.drop j).countP p := by
    rw [← List.countP_append, List.take_append_drop]
  omega
/-- an entry is written once. -/
theorem Hist.once {l : List Dd} (h : Hist l) {i j : Nat} {a b : Dd} (hi : l[i]? = some a) (hj : l[j]? = some b) {e : En} (ha : e ∈ a.w) (hb : e ∈ b.w) : i = j := by
  have h1 := (h.can.2 a (List.mem_of_getElem? hi)).1 e ha
  unfold writersN at h1
  rcases Nat.lt_trichotomy i j with hij | hij | hij
  · have := countP_two (p := fun d => decide (e ∈ d.w)) hij hi hj (by simpa using ha) (by simpa using hb)
    omega
  · exact hij
  · have := countP_two (p := fun d => decide (e ∈ d.w)) hij hj hi (by simpa using hb) (by simpa using ha)
    omega
/-- what was read was written. -/
theorem Hist.from {l : List Dd} (h : Hist l) {i : Nat} {d : Dd} (hd : l[i]? = some d) {e : En} (he : e ∈ d.r) (hv : 0 < e.v) : ∃ (j : Nat) (b : Dd), l[j]? = some b ∧ e ∈ b.w := by
  have h1 := (h.can.2 d (List.mem_of_getElem? hd)).2 e he hv
  unfold writersN at h1
  obtain ⟨b, hb, hbe⟩ := List.countP_pos_iff.1 (show 0 < l.countP fun d => decide (e ∈ d.w) by omega)
  obtain ⟨j, hj, rfl⟩ := List.getElem_of_mem hb
  exact ⟨j, _, List.getElem?_eq_getElem hj, by simpa using hbe⟩
theorem ahead_iff {a b : Dd} (hb : OkR b.w 1) : Ahead a b ↔ Younger a.w b.r 0 ∨ Needs a b := by
  unfold Ahead Needs Younger
  constructor
  · rintro (h | ⟨x, hx, y, hy, h1, h2, h3⟩ | ⟨x, hx, y, hy, h1, h2, h3⟩)
    · exact .inl h
    · exact .inr ⟨y, hy, .inr ⟨x, hx, h1, by omega⟩⟩
    · exact .inr ⟨y, hy, .inl ⟨x, hx, h1, by omega⟩⟩
  · rintro (h | ⟨w, hw, ⟨e, he, h1, h2⟩ | ⟨e, he, h1, h2⟩⟩)
    · exact .inl h
    · have := hb w hw; unfold okE at this
      exact .inr (.inr ⟨e, he, w, hw, h1, by omega, by omega⟩)
    · have := hb w hw; unfold okE at this
      exact .inr (.inl ⟨e, he, w, hw, h1, by omega, by omega⟩)
/-- does no deed read what it, or something younger than it, wrote? -/
def NoSelf (l : List Dd) : Prop := ∀ d ∈ l, ¬ Younger d.w d.r 0
/-- can k be next, as the document tells it? -/
def PickR (l : List Dd) (S : List Nat) (k : Nat) : Prop := k ∉ S ∧ ∃ d, l[k]? = some d ∧ Next (nowS l S) d ∧ ∀ i x, l[i]? = some x → i ∉ S → i ≠ k → ¬ Needs x d
structure InvS (l : List Dd) (S : List Nat) : Prop where
  no : ∀ j ∈ S, ∀ k, k < l.length → k ∉ S → ¬ Ahd l k j
  le : ∀ j ∈ S, ∀ d, l[j]? = some d → ∀ w ∈ d.w, w.v ≤ nowS l S (place w)
  val : ∀ p, nowS l S p = 0 ∨ ∃ j ∈ S, ∃ d, l[j]? = some d ∧ ∃ w ∈ d.w, place w = p ∧ w.v = nowS l S p
theorem InvS.nil {l : List Dd} : InvS l [] := ⟨fun _ h => (by cases h), fun _ h => (by cases h), fun p => .inl rfl⟩
theorem pick_iff {l : List Dd} (h : Hist l) (hs : NoSelf l) {S : List Nat} (hi : InvS l S) (k : Nat) : Pick (Ahd l) l.length S k ↔ PickR l S k := by
  constructor
  · rintro ⟨hk, hkS, hno⟩
    have hd : l[k]? = some l[k] := List.getElem?_eq_getElem hk
    generalize l[k] = d at hd
    refine ⟨hkS, d, hd, ⟨fun e he => ?_, fun e he => ?_⟩, fun i x hx hiS hik hn => ?_⟩
    · have hoke := h.okr hd he
      have hle : nowS l S (place e) ≤ e.v := by
        rcases hi.val (place e) with h0 | ⟨j, hj, b, hb, w, hw, hp, hv⟩
        · rw [h0]; exact hoke.2.2.2.2
        · apply Classical.byContradiction
          intro hlt
          have hokw := h.okw hb hw
          refine hi.no j hj k hk hkS ⟨d, b, hd, hb, .inr (.inr ⟨e, he, w, hw, (place_alike hoke hokw).1 hp.symm, hokw.2.2.2.2, by omega⟩)⟩
      rcases Int.lt_or_le 0 e.v with hv | hv
      · obtain ⟨j, b, hb, heb⟩ := h.from hd he hv
        have hyo : Younger b.w d.r 0 := ⟨e, heb, e, he, by simp [alike], by omega, by omega⟩
        have hjk : j ≠ k := by
          rintro rfl
          rw [hd] at hb; cases hb
          exact hs d (List.mem_of_getElem? hd) hyo
        have hjS : j ∈ S := Classical.byContradiction fun hjS => hno j (List.getElem?_eq_some_iff.1 hb).1 hjS hjk ⟨b, d, hb, hd, .inl hyo⟩
        have := hi.le j hjS b hb e heb
        omega
      · have h0 := hoke.2.2.2.2
        rcases hi.val (place e) with h1 | ⟨j, hj, b, hb, w, hw, hp, hv2⟩
        · omega
        · have := (h.okw hb hw).2.2.2.2; omega
    · have hoke := h.okw hd he
      rcases hi.val (place e) with h0 | ⟨j, hj, b, hb, w, hw, hp, hv⟩
      · have := hoke.2.2.2.2; omega
      · apply Classical.byContradiction
        intro hlt
        have hokw := h.okw hb hw
        have hal := (place_alike hoke hokw).1 hp.symm
        rcases Int.lt_or_le e.v w.v with hlt2 | hle2
        · exact hi.no j hj k hk hkS ⟨d, b, hd, hb, .inr (.inl ⟨e, he, w, hw, hal, hokw.2.2.2.2, by omega⟩)⟩
        · have hew : e = w := en_eq hal (by omega)
          subst hew
          have := h.once hd hb he hw
          subst this
          exact hkS hj
    · exact hno i (List.getElem?_eq_some_iff.1 hx).1 hiS hik ⟨x, d, hx, hd, (ahead_iff (h.ws hd).okR).2 (.inr hn)⟩
  · rintro ⟨hkS, d, hd, hnx, hno⟩
    refine ⟨(List.getElem?_eq_some_iff.1 hd).1, hkS, ?_⟩
    rintro i hil hiS hik ⟨a, b, ha, hb, hab⟩
    rw [hd] at hb; cases hb
    rcases (ahead_iff (h.ws hd).okR).1 hab with ⟨w, hw, r, hr, hal, _, hle⟩ | hn
    · have hokw := h.okw ha hw
      have hokr := h.okr hd hr
      have h1 := hnx.1 r hr
      have hpl := (place_alike hokw hokr).2 hal
      rcases hi.val (place r) with h0 | ⟨j, hj, c, hc, w2, hw2, hp, hv⟩
      · have := hokw.2.2.2.2; omega
      · have hokw2 := h.okw hc hw2
        have hal2 := (place_alike hokw hokw2).1 (hpl.trans hp.symm)
        rcases Int.lt_or_le w.v w2.v with hlt2 | hle2
        · exact hi.no j hj i hil hiS ⟨a, c, ha, hc, .inr (.inl ⟨w, hw, w2, hw2, hal2, hokw2.2.2.2.2, by omega⟩)⟩
        · have hew : w = w2 := en_eq hal2 (by omega)
          subst hew
          have := h.once ha hc hw hw2
          subst this
          exact hiS hj
    · exact hno i a ha hiS hik hn
theorem InvS.next {l : List Dd} (h : Hist l) {S : List Nat} (hi : InvS l S) {i : Nat} (hp : Pick (Ahd l) l.length S i) (hr : PickR l S i) : InvS l (S ++ [i]) := by
  obtain ⟨_, d, hd, hnx, _⟩ := hr
  have hu := (h.ws hd).uniq
  refine ⟨fun j hj k hk hkS => ?_, fun j hj b hb w hw => ?_, fun p => ?_⟩
  · have hkS' : k ∉ S ∧ k ≠ i := by simpa using hkS
    rcases List.mem_append.1 hj with hj | hj
    · exact hi.no j hj k hk hkS'.1
    · simp at hj; subst hj
      exact hp.2.2 k hk hkS'.1 hkS'.2
  · rw [nowS_snoc' hd]
    rcases List.mem_append.1 hj with hj | hj
    · have h1 := hi.le j hj b hb w hw
      rcases after_cases (nowS l S) hu (place w) with ⟨h2, _⟩ | ⟨e, he, hpe, h2⟩
      · rw [h2]; exact h1
      · have := hnx.2 e he
        rw [hpe] at this; omega
    · simp at hj; subst hj
      rw [hd] at hb; cases hb
      rw [after_mem hu hw]; exact Int.le_refl _
  · rw [nowS_snoc' hd]
    rcases after_cases (nowS l S) hu p with ⟨h2, _⟩ | ⟨e, he, hpe, h2⟩
    · rw [h2]
      rcases hi.val p with h0 | ⟨j, hj, b, hb, w, hw, hp, hv⟩
      · exact .inl h0
      · exact .inr ⟨j, List.mem_append_left _ hj, b, hb, w, hw, hp, hv⟩
    · exact .inr ⟨i, by simp, d, hd, e, he, hpe, h2.symm⟩
theorem chain_inv {l : List Dd} (h : Hist l) (hs : NoSelf l) {S : List Nat} (hc : Chain (Ahd l) l.length S) : ∀ t, t ≤ S.length → InvS l (S.take t) := by
  intro t
  induction t with
  | zero => intro _; simpa using InvS.nil
  | succ t ih =>
    intro ht
    have hi := ih (by omega)
    have h1 := hc t _ (List.getElem?_eq_getElem (show t < S.length by omega))
    rw [List.take_succ_eq_append_getElem (show t < S.length by omega)]
    exact hi.next h h1.1 ((pick_iff h hs hi _).1 h1.1)
/-! orders -/
/-- one behind the other, each can come next. -/
def Ser (l : List Dd) (S : List Nat) : Prop := ∀ (t k : Nat), S[t]? = some k → k ∉ S.take t ∧ ∃ d, l[k]? = some d ∧ Next (nowS l (S.take t)) d
theorem Ser.le_succ {l : List Dd} (h : Hist l) {S : List Nat} (hs : Ser l S) {t : Nat} (ht : t < S.length) (p : Nat) : nowS l (S.take t) p ≤ nowS l (S.take (t + 1)) p := by
  obtain ⟨_, d, hd, hnx⟩ := hs t _ (List.getElem?_eq_getElem ht)
  rw [List.take_succ_eq_append_getElem ht, nowS_snoc' hd]
  rcases after_cases (nowS l (S.take t)) (h.ws hd).uniq p with ⟨h2, _⟩ | ⟨e, he, hpe, h2⟩
  · omega
  · have := hnx.2 e he
    rw [hpe] at this; omega
theorem Ser.le {l : List Dd} (h : Hist l) {S : List Nat} (hs : Ser l S) {t u : Nat} (htu : t ≤ u) (hu : u ≤ S.length) (p : Nat) : nowS l (S.take t) p ≤ nowS l (S.take u) p := by
  induction u with
  | zero => have : t = 0 := by omega
            subst this; exact Int.le_refl _
  | succ u ih =>
    rcases Nat.lt_or_ge u t with h1 | h1
    · have : t = u + 1 := by omega
      subst this; exact Int.le_refl _
    · exact Int.le_trans (ih h1 (by omega)) (hs.le_succ h (by omega) p)
theorem Ser.ahead {l : List Dd} (h : Hist l) {S : List Nat} (hs : Ser l S) {t u i k : Nat} (hi : S[t]? = some i) (hk : S[u]? = some k) (ha : Ahd l i k) : i = k ∨ t < u := by
  apply Classical.byContradiction
  intro hn
  have hne : i ≠ k := fun hh => hn (.inl hh)
  have hut : u < t := by
    rcases Nat.lt_trichotomy u t with h1 | h1 | h1
    · exact h1
    · subst h1; rw [hi] at hk; cases hk; exact absurd rfl hne
    · exact absurd (.inr h1) hn
  obtain ⟨a, b, hla, hlb, hab⟩ := ha
  obtain ⟨_, a', ha', hna⟩ := hs t i hi
  obtain ⟨_, b', hb', hnb⟩ := hs u k hk
  rw [hla] at ha'; cases ha'
  rw [hlb] at hb'; cases hb'
  have htl := (List.getElem?_eq_some_iff.1 hi).1
  have hul := (List.getElem?_eq_some_iff.1 hk).1
  have hwr : ∀ w ∈ b.w, w.v ≤ nowS l (S.take t) (place w) := by
    intro w hw
    have h1 := hs.le h (show u + 1 ≤ t by omega) (by omega) (place w)
    have h2 : nowS l (S.take (u + 1)) (place w) = w.v := by
      rw [List.take_succ_eq_append_getElem hul]
      have : S[u] = k := (List.getElem?_eq_some_iff.1 hk).2
      rw [this, nowS_snoc' hlb, after_mem (h.ws hlb).uniq hw]
    omega
  rcases hab with ⟨w, hw, r, hr, hal, _, hle⟩ | ⟨w, hw, x, hx, hal, _, hle⟩ | ⟨r, hr, x, hx, hal, _, hle⟩
  · have h1 := hnb.1 r hr
    have h2 := hs.le h (Nat.le_of_lt hut) (by omega) (place r)
    have h3 := hna.2 w hw
    have hpl := (place_alike (h.okw hla hw) (h.okr hlb hr)).2 hal
    rw [hpl] at h3; omega
  · have h1 := hwr x hx
    have h3 := hna.2 w hw
    have hpl := (place_alike (h.okw hla hw) (h.okw hlb hx)).2 hal
    rw [hpl] at h3; omega
  · have h1 := hwr x hx
    have h3 := hna.1 r hr
    have hpl := (place_alike (h.okr hla hr) (h.okw hlb hx)).2 hal
    rw [hpl] at h3; omega
theorem Ser.nodup {l : List Dd} {S : List Nat} (hs : Ser l S) : S.Nodup := by
  unfold List.Nodup
  rw [List.pairwise_iff_getElem]
  intro i j hi hj hij he
  refine (hs j _ (List.getElem?_eq_getElem hj)).1 ?_
  rw [← he, List.mem_take_iff_getElem]
  exact ⟨i, by omega, rfl⟩
theorem Ser.lt {l : List Dd} {S : List Nat} (hs : Ser l S) : ∀ x ∈ S, x < l.length := by
  intro x hx
  obtain ⟨t, ht, rfl⟩ := List.getElem_of_mem hx
  obtain ⟨_, d, hd, _⟩ := hs t _ (List.getElem?_eq_getElem ht)
  exact (List.getElem?_eq_some_iff.1 hd).1
/-- numbers below n, none twice, n of them: all. -/
theorem all_of_nodup : ∀ {n : Nat} {S : List Nat}, S.Nodup → (∀ x ∈ S, x < n) → S.length = n → ∀ k, k < n → k ∈ S := by
  intro n S hn hl hlen k hk
  apply Classical.byContradiction
  intro hkS
  have h1 : (k :: S).Nodup := List.nodup_cons.2 ⟨hkS, hn⟩
  have h2 : (k :: S) ⊆ List.range n := by
    intro x hx
    rcases List.mem_cons.1 hx with rfl | hx
    · simpa using hk
    · simpa using hl x hx
  have h3 := List.Nodup.length_le_of_subset h1 h2
  simp at h3; omega
/-- an order of all that is serial: whoever is first of those that are left can be picked. -/
theorem Ser.pick {l : List Dd} (h : Hist l) {S : List Nat} (hs : Ser l S) (hlen : S.length = l.length) {T : List Nat} {t k : Nat} (hk : S[t]? = some k) (hkT : k ∉ T) (hT : ∀ u j, u < t → S[u]? = some j → j ∈ T) : Pick (Ahd l) l.length T k := by
  have hall := all_of_nodup hs.nodup hs.lt hlen
  refine ⟨hs.lt k (List.mem_of_getElem? hk), hkT, fun i hi hiT hik ha => ?_⟩
  obtain ⟨u, hu, rfl⟩ := List.getElem_of_mem (hall i hi)
  rcases hs.ahead h (List.getElem?_eq_getElem hu) hk ha with h1 | h1
  · exact hik h1
  · exact hiT (hT u _ h1 (List.getElem?_eq_getElem hu))
/-- what was picked is serial. -/
theorem chain_ser {l : List Dd} (h : Hist l) (hs : NoSelf l) {S : List Nat} (hc : Chain (Ahd l) l.length S) : Ser l S := by
  intro t k hk
  have hi := chain_inv h hs hc t (by have := (List.getElem?_eq_some_iff.1 hk).1; omega)
  obtain ⟨h1, d, hd, hnx, _⟩ := (pick_iff h hs hi k).1 (hc t k hk).1
  exact ⟨h1, d, hd, hnx⟩
open Classical
theorem s18_wp {H : Heap} {Q : HV → Heap → Prop} {s : Sl} {l : List Dd} (hs : Deeds H s l) (hn : l.length ≤ 1000) {D : HV → List HV → M HV} {fv : HV}
    (hD : ∀ (H' : Heap) (i k : Nat) (hi : i < l.length) (hk : k < l.length), Keeps H H' → ∀ R : HV → Heap → Prop, (∀ x : Bool, (x = true ↔ Ahead l[i] l[k]) → R (.bool x) H') → wp (D fv [.agg (l[i]).cs, .agg (l[k]).cs]) R H')
    (h1 : ∀ (S : List Nat) s' H', S.length = l.length → Chain (Ahd l) l.length S → Own H H' s' 1 (S.map fun x : Nat => [I x]) → Q (.tup [.sl s', .bool true]) H')
    (h2 : ∀ (S : List Nat) H', S.length < l.length → Chain (Ahd l) l.length S → (∀ k, ¬ Pick (Ahd l) l.length S k) → Keeps H H' → Q (.tup [.sl ⟨none, 0, 0, none⟩, .bool false]) H') :
    wp (f_witness_order_witness_Deed D [.sl s, fv]) Q H := by
  unfold f_witness_order_witness_Deed
  have hlen : s.len = l.length := hs.len
  refine wp_fin (wp_uL (wp_uc (wp_nl (wp_gd (by simp) (wp_gd (by simp) (wp_gd (decide_eq_true (by simp only [room, Int.toNat_natCast, hlen]; omega)) ?_))))))
  refine wp_nw ?_
  have hk0 : Keeps H (H.push (.cells (repL (s.len : Int).toNat [I 0]) false)) := Keeps.push _ _
  have hn0 : Nums (H.push (.cells (repL (s.len : Int).toNat [I 0]) false)) H.n (w1 (Ahd l) l.length 0 0) := by
    refine ⟨by simp [Heap.push], ?_, by rw [w1_len]; omega⟩
    simp only [Heap.push, if_pos]
    rw [repL_one, hlen]
    congr 1
    apply List.ext_getElem?
    intro j
    rw [List.getElem?_map]
    simp only [Int.toNat_natCast, List.getElem?_replicate]
    by_cases hj : j < l.length
    · rw [w1_get hj, waitN_none, if_pos hj, if_neg (by omega)]; rfl
    · rw [List.getElem?_eq_none (by rw [w1_len]; omega), if_neg hj]; rfl
  refine wp_blk ?_
  refine wp_range (σ := Unit) l.length (fun i _ => [I i]) (fun i _ H' => Keeps H H' ∧ Nums H' H.n (w1 (Ahd l) l.length i 0)) () rfl ⟨hk0, hn0⟩ ?_ ?_
  · rintro i _ H1 hi ⟨hk1, hw⟩
    refine wp_uI (wp_nl (wp_cond (fun _ => ?_) (fun hc => ?_)))
    · refine wp_ixN (hs.sl.keeps hk1) (by omega) (hs.at hi) (fun _ _ => wp_uL (wp_uL (wp_nl ?_)))
      refine s18_first hs hn hD hk1 (Nat.le_refl _) hi hw (fun H2 hk2 hw2 => ?_) rfl
      exact wp_nl (wp_ret ⟨(), by rw [wr_succ hi hs.lt], hk2, hw2⟩)
    · rw [hs.len] at hc; simp at hc; omega
  · rintro _ H1 ⟨hk1, hw⟩
    refine wp_uI (wp_nl (wp_cond (fun hc => ?_) (fun _ => wp_ret ?_)))
    · rw [hs.len] at hc; simp at hc
    refine wp_nl ?_
    refine wp_blk ?_
    refine wp_range (σ := List Nat × List Int × Sl) l.length (fun i x => [.sl x.2.2, I i])
      (fun i x H' => x.1.length = i ∧ Chain (Ahd l) l.length x.1 ∧ WS (Ahd l) l.length x.1 x.2.1 ∧ Nums H' H.n x.2.1 ∧ Own H H' x.2.2 1 (x.1.map fun y : Nat => [I y]) ∧ x.2.2.p ≠ some (H.n, 0))
      ([], w1 (Ahd l) l.length l.length 0, ⟨none, 0, 0, none⟩) rfl ⟨rfl, fun t k hk => by simp at hk, WS.start, hw, Own.nil hk1 1, by simp⟩ ?_ ?_
    · rintro i ⟨S, w, x⟩ H2 hi ⟨hS, hch, hws, hnm, hown, hxp⟩
      simp only at hS hch hws hnm hown hxp
      have hwl : w.length = l.length := hws.1
      have hsl : (⟨some (H.n, 0), (s.len : Int).toNat, (s.len : Int).toNat, none⟩ : Sl) = numSl H.n w.length := by
        rw [hwl, hlen]; simp [numSl]
      refine wp_uL (wp_uI (wp_nl (wp_cond (fun _ => ?_) (fun hc => ?_))))
      · refine wp_bnd (s30_wp (l := w) (hsl ▸ hnm.ints) 0 ?_)
        rintro n (⟨rfl, hno⟩ | ⟨j, rfl, hj, hmin⟩)
        · refine wp_asI (wp_cond (fun _ => wp_ret ?_) (fun hc => by simp at hc))
          refine h2 S H2 (by omega) hch (fun k hk => ?_) hown.keeps
          exact hno (List.mem_of_getElem? ((hws.pick k).1 hk))
        · have hjw : j < w.length := (List.getElem?_eq_some_iff.1 hj).1
          have hpk := (hws.pick j).2 hj
          refine wp_asI (wp_cond (fun hc => by simp at hc; omega) (fun _ => ?_))
          refine wp_numset hnm hsl (by omega) (by simpa using hjw) (fun hn2 => ?_)
          have hbd := hws.bound hn (by omega)
          refine s18_second hs hD (Nat.le_refl _) (nx := j) (by omega) (u := w.set j (-1)) (by simp [hwl]) (fun y hy => ?_)
            (fun H' => Own H H' x 1 (S.map fun y : Nat => [I y])) (hown.keeps.set (Nat.le_refl _) _) (hown.set (Nat.le_refl _) hxp _) (fun H' c _ hP => hP.set (Nat.le_refl _) hxp _) hn2 (fun H3 hk3 hP3 hn3 => ?_) rfl rfl
          · rcases List.mem_or_eq_of_mem_set hy with hy | rfl
            · have := hbd y hy; omega
            · omega
          · refine wp_nl ?_
            refine wp_apd hP3 (l := [I j]) rfl (by omega) (by simp only [List.length_map, hS, room]; omega) (by simp only [List.length_map, hS, room]; omega) ?_
            intro s' H4 ho4 hk4 hn4 hp4
            refine wp_ret ⟨(S ++ [j], w2 (Ahd l) (w.set j (-1)) l.length j l.length, s'), by rw [wr_succ hi hs.lt], by simp [hS], hch.snoc hpk (fun q hq hh => hmin q hq ((hws.pick q).1 hh)), hws.next (by omega) hpk.2.1, ?_, ?_, ?_⟩
            · exact hn3.besides hn4 (hk4 _ hn3.lt hxp)
            · rw [List.map_append]; exact ho4
            · show s'.p ≠ some (H.n, 0)
              rw [hp4]
              have := hn3.lt
              intro hh
              simp at hh
              omega
      · rw [hs.len] at hc; simp at hc; omega
    · rintro ⟨S, w, x⟩ H2 ⟨hS, hch, hws, hnm, hown, hxp⟩
      simp only at hS hch hws hnm hown hxp
      refine wp_uL (wp_uI (wp_nl (wp_cond (fun hc => ?_) (fun _ => wp_ret ?_))))
      · rw [hs.len] at hc; simp at hc
      · exact wp_uL (wp_nl (wp_ret (h1 S x H2 hS hch hown)))
/-- Serial: what it answers. -/
theorem s10_wp {H : Heap} {Q : HV → Heap → Prop} {s : Sl} {l : List Dd} (hs : Deeds H s l) (hf : ∀ d ∈ l, DFit d) {D : HV → List HV → M HV}
    (hD : ∀ xs, D (.func n_witness_ahead [] []) xs = f_witness_ahead noD xs)
    (h0 : 160 < l.length → Q (.tup [.sl ⟨none, 0, 0, none⟩, I 3]) H)
    (h1 : l.length ≤ 160 → ¬ CanP l → Q (.tup [.sl ⟨none, 0, 0, none⟩, I 1]) H)
    (h2 : l.length ≤ 160 → CanP l → ∀ H', Keeps H H' → (¬ NoSelf l ∨ NoSelf l ∧ ∃ S : List Nat, S.length < l.length ∧ Chain (Ahd l) l.length S ∧ ∀ k, ¬ Pick (Ahd l) l.length S k) → Q (.tup [.sl ⟨none, 0, 0, none⟩, I 5]) H')
    (h3 : l.length ≤ 160 → CanP l → NoSelf l → ∀ (S : List Nat) s' H', S.length = l.length → Chain (Ahd l) l.length S → Own H H' s' 1 (S.map fun x : Nat => [I x]) → Q (.tup [.sl s', I 0]) H') :
    wp (f_witness_Serial D [.sl s]) Q H := by
  unfold f_witness_Serial
  refine wp_fin (wp_uL (wp_nl (wp_cond (fun c => wp_ret ?_) (fun c => ?_))))
  · rw [hs.len] at c; simp at c; exact h0 (by omega)
  have hl : l.length ≤ 160 := by rw [hs.len] at c; simp at c; omega
  refine wp_bnd (s16_wp hs fun x hx => wp_asB (wp_cond (fun c2 => wp_ret ?_) (fun c2 => ?_)))
  · have : x = false := by simpa using c2
    subst this
    exact h1 hl fun hh => by have := hx.2 hh; cases this
  have hcan : CanP l := hx.1 (by simpa using c2)
  refine wp_blk ?_
  refine wp_range (σ := Unit) l.length (fun i _ => [I i]) (fun i _ H' => H' = H ∧ ∀ (j : Nat) (d : Dd), j < i → l[j]? = some d → ¬ Younger d.w d.r 0) () rfl ⟨rfl, fun j a hj => by omega⟩ ?_ ?_
  · rintro i _ H' hi ⟨rfl, hno⟩
    refine wp_uI (wp_nl (wp_cond (fun _ => ?_) (fun hc => ?_)))
    · refine wp_ixN hs.sl (by omega) (hs.at hi) (fun _ _ => wp_uL (wp_uL (wp_nl ?_)))
      refine wp_bnd (s17_wp (hs.w hi) (hs.r hi) (by omega) (hf _ (List.getElem_mem hi)).r fun y hy => ?_)
      refine wp_asB (wp_cond (fun c3 => wp_ret ?_) (fun c3 => wp_ret ?_))
      · exact h2 hl hcan H' (Keeps.refl _) (.inl fun hh => hh _ (List.getElem_mem hi) (hy.1 c3))
      · refine ⟨(), by rw [wr_succ hi hs.lt], rfl, fun j d hj hjd => ?_⟩
        by_cases hji : j = i
        · subst hji; rw [List.getElem?_eq_getElem hi] at hjd; cases hjd
          intro hh; have := hy.2 hh; rw [c3] at this; cases this
        · exact hno j d (by omega) hjd
    · rw [hs.len] at hc; simp at hc; omega
  · rintro _ H' ⟨rfl, hno⟩
    have hns : NoSelf l := fun d hd => by
      obtain ⟨j, hj, rfl⟩ := List.getElem_of_mem hd
      exact hno j _ hj (List.getElem?_eq_getElem hj)
    refine wp_uI (wp_nl (wp_cond (fun hc => ?_) (fun _ => wp_ret ?_)))
    · rw [hs.len] at hc; simp at hc
    refine wp_nl ?_
    refine wp_bnd (s18_wp hs (by omega) ?_ ?_ ?_)
    · intro H2 i k hi hk hkp R hR
      rw [hD]
      exact s19_wp ⟨SlR.keeps (hs.r hi) hkp, SlR.keeps (hs.w hi) hkp⟩ ⟨SlR.keeps (hs.r hk) hkp, SlR.keeps (hs.w hk) hkp⟩ (hf _ (List.getElem_mem hk)) hR
    · intro S s' H2 hS hch ho
      exact wp_asT (wp_uL (wp_uB (wp_nl (wp_cond (fun c => by simp at c) (fun _ => wp_ret (h3 hl hcan hns S s' H2 hS hch ho))))))
    · intro S H2 hS hch hno hk
      exact wp_asT (wp_uL (wp_uB (wp_nl (wp_cond (fun _ => wp_ret (h2 hl hcan H2 hk (.inr ⟨hns, S, hS, hch, hno⟩))) (fun c => by simp at c)))))
open Classical
/-- a block of a function's own, one cell an element. -/
structure Arr (H : Heap) (b : Nat) (w : List HV) : Prop where
  lt : b < H.n
  get : H.get b = .cells w false
  len : w.length ≤ 9223372036854775807
theorem Arr.besides {H H' : Heap} {b : Nat} {w : List HV} (h : Arr H b w) (hn : H.n ≤ H'.n) (hg : H'.get b = H.get b) : Arr H' b w := ⟨Nat.lt_of_lt_of_le h.lt hn, by rw [hg]; exact h.get, h.len⟩
theorem Arr.set {H : Heap} {b : Nat} {w : List HV} (h : Arr H b w) (i : Nat) (v : HV) : Arr (H.set b (.cells (w.set i v) false)) b (w.set i v) :=
  ⟨h.lt, by simp [Heap.set], by simpa using h.len⟩
section
variable {α : Type} {Q : α → Heap → Prop} {H : Heap}
theorem wp_arrget {b n : Nat} {w : List HV} (h : Arr H b w) {s : Sl} (hs : s = numSl b n) (hn : w.length = n) {i : Int} (h0 : 0 ≤ i) {v : HV} (hi : w[i.toNat]? = some v) {g : Nat → Nat → HV → M α} (hg : ∀ b o, wp (g b o v) Q H) :
    wp (ix s i 1 fun b o => ldC b o fun c => g b o c) Q H := by
  subst hs
  have hlt : i.toNat < w.length := (List.getElem?_eq_some_iff.1 hi).1
  unfold ix
  refine wp_gd (by simpa using h0) (wp_gd (decide_eq_true (by show i < (n : Int); omega)) ?_)
  show wp (mP (some (b, 0)) _) Q H
  rw [mP_eq']
  refine wp_of (m' := g b (0 + i.toNat * 1) v) (fun n => ?_) (hg _ _)
  unfold ldC
  simp only [h.get]
  unfold gx
  rw [Nat.zero_add, Nat.mul_one, hi]
theorem wp_arrset {b n : Nat} {w : List HV} (h : Arr H b w) {s : Sl} (hs : s = numSl b n) (hn : w.length = n) {i : Int} (h0 : 0 ≤ i) (hi : i.toNat < w.length) {v : HV} (hv : v.sc = true) {m : M α}
    (hm : Arr (H.set b (.cells (w.set i.toNat v) false)) b (w.set i.toNat v) → wp m Q (H.set b (.cells (w.set i.toNat v) false))) :
    wp (ix s i 1 fun b o => stC b o v m) Q H := by
  subst hs
  unfold ix
  refine wp_gd (by simpa using h0) (wp_gd (decide_eq_true (by show i < (n : Int); omega)) ?_)
  show wp (mP (some (b, 0)) _) Q H
  rw [mP_eq']
  refine wp_stC (o := 0 + i.toNat * 1) h.get (by omega) hv ?_
  rw [Nat.zero_add, Nat.mul_one]
  exact hm (h.set _ _)
end
/-- flags: who is of S. -/
noncomputable def flg (n : Nat) (S : List Nat) : List HV := (List.range n).map fun k => .bool (decide (k ∈ S))
theorem flg_len {n : Nat} {S : List Nat} : (flg n S).length = n := by simp [flg]
theorem flg_get {n k : Nat} {S : List Nat} (hk : k < n) : (flg n S)[k]? = some (.bool (decide (k ∈ S))) := by simp [flg, hk]
theorem flg_set {n k : Nat} {S : List Nat} (_hk : k < n) : (flg n S).set k (.bool true) = flg n (S ++ [k]) := by
  apply List.ext_getElem?
  intro j
  by_cases hj : j < n
  · by_cases hjk : k = j
    · subst hjk; rw [List.getElem?_set_self (by rw [flg_len]; exact hj), flg_get hj]; simp
    · rw [List.getElem?_set_ne hjk, flg_get hj, flg_get hj]
      have : (j ∈ S ++ [k]) ↔ j ∈ S := by simp; intro h; exact absurd h.symm hjk
      simp only [this]
  · rw [List.getElem?_eq_none (by simp [flg_len]; omega), List.getElem?_eq_none (by rw [flg_len]; omega)]
theorem flg_nil {n : Nat} : repL n [.bool false] = flg n [] := by
  have : repL n [HV.bool false] = List.replicate n (.bool false) := by cases n <;> rfl
  rw [this]
  apply List.ext_getElem?
  intro j
  by_cases hj : j < n
  · rw [flg_get hj]; simp [hj]
  · rw [List.getElem?_eq_none (by simp; omega), List.getElem?_eq_none (by rw [flg_len]; omega)]
theorem Arr.push {H : Heap} {w : List HV} (h : w.length ≤ 1000000) : Arr (H.push (.cells w false)) H.n w := ⟨by simp [Heap.push], by simp [Heap.push], by omega⟩
theorem PickR.lt {l : List Dd} {S : List Nat} {k : Nat} (h : PickR l S k) : k < l.length := by
  obtain ⟨_, d, hd, _⟩ := h
  exact (List.getElem?_eq_some_iff.1 hd).1
theorem Board.gx {y : List HV} {f : Nat → Int} (h : Board y f) {α : Type} {Q : α → Heap → Prop} {H : Heap} {g : List HV → M α} (hg : wp (g y) Q H) : wp (gxN y 0 24 g) Q H := by
  have e1 : (y.drop 0).take 24 = y := by rw [List.drop_zero, ← h.1, List.take_length]
  unfold gxN
  refine wp_gd (by rw [h.1]; rfl) ?_
  rw [e1]; exact hg
open Classical
theorem Heap.ext' {H K : Heap} (h1 : H.n = K.n) (h2 : ∀ b, H.get b = K.get b) (h3 : ∀ b, H.ty b = K.ty b) : H = K := by
  cases H; cases K; simp only at h1 h2 h3; subst h1; congr; exact funext h2; exact funext h3
theorem Heap.set_same {H : Heap} {b : Nat} {o : HObj} (h : H.get b = o) : H.set b o = H := by
  refine Heap.ext' rfl (fun x => ?_) (fun _ => rfl)
  simp only [Heap.set]
  split
  · rename_i hx; rw [hx, h]
  · rfl
theorem Heap.set_set {H : Heap} {b : Nat} {o o2 : HObj} : (H.set b o).set b o2 = H.set b o2 := by
  refine Heap.ext' rfl (fun x => ?_) (fun _ => rfl)
  simp only [Heap.set]
  split
  · rfl
  · rename_i hx; rfl
theorem Heap.set_get {H : Heap} {b : Nat} {o : HObj} : (H.set b o).get b = o := by simp [Heap.set]
theorem wp_ldC {α : Type} {Q : α → Heap → Prop} {H : Heap} {b o : Nat} {cs : List HV} {ro : Bool} (hb : H.get b = .cells cs ro) {v : HV} (ho : cs[o]? = some v) {g : HV → M α} (hg : wp (g v) Q H) : wp (ldC b o g) Q H := by
  refine wp_of (m' := g v) (fun n => ?_) hg
  unfold ldC; simp only [hb]; unfold gx; rw [ho]
theorem SlR.set {H : Heap} {s : Sl} {sz : Nat} {ls : List (List HV)} (h : SlR H s sz ls) {b : Nat} {o : HObj} (hb : ∀ o', s.p ≠ some (b, o')) : SlR (H.set b o) s sz ls :=
  ⟨h.len, h.lt, h.cap, h.opn, h.szs, by
    rcases h.mem with h1 | ⟨b2, o2, cs, ro, h1, h2, h3, h4⟩
    · exact .inl h1
    · refine .inr ⟨b2, o2, cs, ro, h1, h2, ?_, h4⟩
      simp only [Heap.set]
      rw [if_neg (by rintro rfl; exact hb _ h1)]
      exact h3⟩
theorem SlR.off {H : Heap} {s : Sl} {sz : Nat} {ls : List (List HV)} (h : SlR H s sz ls) {b : Nat} (hb : H.n ≤ b) : ∀ o', s.p ≠ some (b, o') := by
  intro o' hs
  rcases h.mem with ⟨h1, _⟩ | ⟨b2, o2, cs, ro, h1, h2, _⟩
  · rw [h1] at hs; cases hs
  · rw [h1] at hs; cases hs; omega
theorem s26_wp {D : HV → List HV → M HV} {H : Heap} {Q : HV → Heap → Prop} {b : Nat} {y : List HV} {f : Nat → Int} (hy : Board y f) (hb : H.get b = .cells y false) {d : Dd} (hd : Ents H d.rs d.r ∧ Ents H d.ws d.w)
    (hof : (∀ o', d.rs.p ≠ some (b, o')) ∧ ∀ o', d.ws.p ≠ some (b, o')) (hr : OkR d.r 0) (hw : OkR d.w 1) (hu : Uniq d.w)
    (h : ∀ (z : Bool) y', (z = true ↔ Next f d) → (z = true → Board y' (after f d.w)) → Q (.bool z) (H.set b (.cells y' false))) : wp (f_witness_board_done D [.ptr (some (b, 0)), .agg d.cs]) Q H := by
  unfold f_witness_board_done
  refine wp_fin (wp_uP (wp_uA (wp_uL (wp_uL (wp_nl (wp_nl ?_))))))
  refine wp_blk ?_
  refine wp_range (σ := Unit) d.r.length (fun i _ => [I i]) (fun i _ H' => H' = H ∧ ∀ (j : Nat) (e : En), j < i → d.r[j]? = some e → f (place e) = e.v) () rfl ⟨rfl, fun j a hj => by omega⟩ ?_ ?_
  · rintro i _ H' hi ⟨rfl, hno⟩
    have hok := hr _ (List.getElem_mem hi)
    have hpl := place_lt hok
    have hok' := hok
    unfold okE at hok'
    refine wp_uI (wp_nl (wp_cond (fun _ => ?_) (fun hc => ?_)))
    · refine wp_ixN hd.1 (by omega) (hd.1.at hi) (fun _ _ => wp_uI (wp_uI (wp_uI (wp_nl ?_))))
      rw [mP_eq']
      refine wp_gd (by simp; omega) (wp_gd (by simp; omega) (wp_gd (by simp; omega) (wp_gd (by simp; omega) ?_)))
      have hbb := hy.2 _ hpl
      refine wp_ldC hb (v := I (f (place (d.r[i])))) hbb ?_
      refine wp_asI (wp_cond (fun c => wp_ret ?_) (fun c => wp_ret ?_))
      · have := h false y ⟨fun hh => (by cases hh), fun hh => by
          have := hh.1 _ (List.getElem_mem hi)
          rw [this] at c; simp at c⟩ (fun hh => by cases hh)
        rw [Heap.set_same hb] at this; exact this
      · refine ⟨(), by rw [wr_succ hi hd.1.lt], rfl, fun j e hj hje => ?_⟩
        by_cases hji : j = i
        · subst hji; rw [List.getElem?_eq_getElem hi] at hje; cases hje
          simpa using c
        · exact hno j e (by omega) hje
    · rw [hd.1.len] at hc; simp at hc; omega
  · rintro _ H' ⟨rfl, hno⟩
    refine wp_uI (wp_nl (wp_cond (fun hc => ?_) (fun _ => wp_ret ?_)))
    · rw [hd.1.len] at hc; simp at hc
    refine wp_nl ?_
    refine wp_blk ?_
    refine wp_range (σ := List HV) d.w.length (fun i _ => [I i]) (fun i y H2 => H2 = H'.set b (.cells y false) ∧ Board y (after f (d.w.take i)) ∧ ∀ (j : Nat) (e : En), j < i → d.w[j]? = some e → f (place e) < e.v) y rfl ⟨(Heap.set_same hb).symm, by simpa [after] using hy, fun j a hj => by omega⟩ ?_ ?_
    · rintro i y2 H2 hi ⟨rfl, hy2, hno2⟩
      have hok := hw _ (List.getElem_mem hi)
      have hpl := place_lt hok
      have hok' := hok
      unfold okE at hok'
      have hws : Ents (H'.set b (.cells y2 false)) d.ws d.w := SlR.set hd.2 hof.2
      have hval : after f (d.w.take i) (place d.w[i]) = f (place d.w[i]) := by
        refine after_not fun e he => ?_
        rw [List.mem_take_iff_getElem] at he
        obtain ⟨j, hj, rfl⟩ := he
        exact List.pairwise_iff_getElem.1 hu j i (by omega) hi (by omega)
      refine wp_uI (wp_nl (wp_cond (fun _ => ?_) (fun hc => ?_)))
      · refine wp_ixN hws (by omega) (hws.at hi) (fun _ _ => wp_uI (wp_uI (wp_uI (wp_nl ?_))))
        rw [mP_eq']
        refine wp_gd (by simp; omega) (wp_gd (by simp; omega) (wp_gd (by simp; omega) (wp_gd (by simp; omega) ?_)))
        have hbb := hy2.2 _ hpl
        rw [hval] at hbb
        refine wp_ldC Heap.set_get (v := I (f (place (d.w[i])))) hbb ?_
        refine wp_asI (wp_cond (fun c => wp_ret ?_) (fun c => ?_))
        · exact h false y2 ⟨fun hh => (by cases hh), fun hh => by
            have := hh.2 _ (List.getElem_mem hi)
            simp at c; omega⟩ (fun hh => by cases hh)
        · rw [mP_eq']
          refine wp_gd (by simp; omega) (wp_gd (by simp; omega) (wp_gd (by simp; omega) (wp_gd (by simp; omega) ?_)))
          refine wp_stC Heap.set_get (by rw [hy2.1]; exact hpl) rfl (wp_ret ?_)
          refine ⟨List.set y2 (place d.w[i]) (I (d.w[i]).v), by rw [wr_succ hi hd.2.lt], Heap.set_set, ⟨by simp [hy2.1], fun p hp => ?_⟩, fun j e hj hje => ?_⟩
          · rw [after_succ f d.w hi]
            simp only
            by_cases hpp : p = place d.w[i]
            · subst hpp; rw [List.getElem?_set_self (by rw [hy2.1]; omega), if_pos rfl]
            · rw [List.getElem?_set_ne (Ne.symm hpp), if_neg hpp]; exact hy2.2 p hp
          · by_cases hji : j = i
            · subst hji; rw [List.getElem?_eq_getElem hi] at hje; cases hje
              simpa using c
            · exact hno2 j e (by omega) hje
      · rw [hd.2.len] at hc; simp at hc; omega
    · rintro y2 H2 ⟨rfl, hy2, hno2⟩
      rw [List.take_length] at hy2
      refine wp_uI (wp_nl (wp_cond (fun hc => ?_) (fun _ => wp_ret ?_)))
      · rw [hd.2.len] at hc; simp at hc
      · refine wp_nl (wp_ret (h true y2 ⟨fun _ => ⟨fun e he => ?_, fun e he => ?_⟩, fun _ => rfl⟩ (fun _ => hy2)))
        · obtain ⟨j, hj, rfl⟩ := List.getElem_of_mem he
          exact hno j _ hj (List.getElem?_eq_getElem hj)
        · obtain ⟨j, hj, rfl⟩ := List.getElem_of_mem he
          exact hno2 j _ hj (List.getElem?_eq_getElem hj)
/-- is an order one of all deeds, and serial? -/
def ReplaysP (l : List Dd) (o : List Int) : Prop := o.length = l.length ∧ ∃ S : List Nat, o = S.map (fun x : Nat => (x : Int)) ∧ Ser l S
theorem map_nat_inj {S T : List Nat} (h : S.map (fun x : Nat => (x : Int)) = T.map (fun x : Nat => (x : Int))) : S = T := by
  have e : ∀ S : List Nat, (S.map (fun x : Nat => (x : Int))).map Int.toNat = S := by
    intro S
    induction S with
    | nil => rfl
    | cons x S ih => rw [List.map_cons, List.map_cons, ih]; rfl
  rw [← e S, ← e T, h]
theorem not_replays {l : List Dd} {o : List Int} {S : List Nat} {i : Nat} (hS : o.take i = S.map (fun x : Nat => (x : Int))) (hi : i < o.length)
    (bad : ∀ k : Nat, o[i] = (k : Int) → ¬ (k ∉ S ∧ ∃ d, l[k]? = some d ∧ Next (nowS l S) d)) : ¬ ReplaysP l o := by
  rintro ⟨_, S', rfl, hs⟩
  rw [← List.map_take] at hS
  have hSS := map_nat_inj hS
  have hi' : i < S'.length := by simpa using hi
  have h1 := hs i _ (List.getElem?_eq_getElem hi')
  rw [hSS] at h1
  exact bad S'[i] (by simp) h1
theorem ser_snoc {l : List Dd} {S : List Nat} {k : Nat} (hs : Ser l S) (h : k ∉ S ∧ ∃ d, l[k]? = some d ∧ Next (nowS l S) d) : Ser l (S ++ [k]) := by
  intro t q hq
  rcases Nat.lt_or_ge t S.length with ht | ht
  · rw [List.getElem?_append_left ht] at hq
    rw [List.take_append_of_le_length (by omega)]
    exact hs t q hq
  · rw [List.getElem?_append_right ht] at hq
    have : t = S.length := by
      rcases Nat.lt_or_ge S.length t with h2 | h2
      · rw [List.getElem?_eq_none (by simp; omega)] at hq; cases hq
      · omega
    subst this
    simp at hq; subst hq
    rw [List.take_left]
    exact h
theorem s15_wp {D : HV → List HV → M HV} {H : Heap} {Q : HV → Heap → Prop} {s s2 : Sl} {l : List Dd} {o : List Int} (hs : Deeds H s l) (ho : Ints H s2 o)
    (h : ∀ (z : Bool) H', Keeps H H' → (z = true ↔ l.length ≤ 160 ∧ CanP l ∧ ReplaysP l o) → Q (.bool z) H') : wp (f_witness_Replays D [.sl s, .sl s2]) Q H := by
  unfold f_witness_Replays
  refine wp_fin (wp_uL (wp_uL (wp_nl ?_)))
  have hlen : s.len = l.length := hs.len
  have holen : s2.len = o.length := ho.len
  refine wp_jn (wp.mono (Q := LB (¬ (l.length ≤ 160 ∧ o.length = l.length ∧ CanP l)) H) ?_ ?_)
  · refine wp_cond (fun c => wp_ret (.mk _ ?_)) (fun c => wp_cond (fun c2 => wp_ret (.mk _ ?_)) (fun c2 => ?_))
    · rw [hlen] at c; simp at c; exact ⟨fun _ hh => by omega, fun _ => rfl⟩
    · rw [hlen, holen] at c2; simp at c2; exact ⟨fun _ hh => by omega, fun _ => rfl⟩
    · rw [hlen] at c; simp at c
      rw [hlen, holen] at c2; simp at c2
      refine wp_bnd (s16_wp hs fun x hx => wp_asB (wp_ret (.mk _ ?_)))
      cases x
      · exact ⟨fun _ hh => (by have := hx.2 hh.2.2; cases this), fun _ => rfl⟩
      · exact ⟨fun hh => (by cases hh), fun hh => absurd ⟨by omega, by omega, hx.1 rfl⟩ hh⟩
  rintro _ H1 ⟨x, rfl, hx, rfl⟩
  refine wp_uB (wp_nl (wp_cond (fun c => wp_ret (h false H1 (Keeps.refl _) ⟨fun hh => (by cases hh), fun hh => absurd ⟨hh.1, hh.2.2.1, hh.2.1⟩ (hx.1 c)⟩)) (fun c => ?_)))
  have hall : l.length ≤ 160 ∧ o.length = l.length ∧ CanP l := by
    apply Classical.byContradiction
    intro hn; have := hx.2 hn; rw [c] at this; cases this
  obtain ⟨h160, hol, hcan⟩ := hall
  have hh : Hist l := ⟨hcan⟩
  have no : ∀ H', Keeps H1 H' → ¬ ReplaysP l o → Q (.bool false) H' := fun H' hk hn => h false H' hk ⟨fun hh => (by cases hh), fun hh => absurd hh.2.2 hn⟩
  refine wp_nw (wp_gd (by simp) (wp_gd (by simp) (wp_gd (decide_eq_true (by simp only [room, Int.toNat_natCast, hlen]; omega)) (wp_nw ?_))))
  generalize hHb : (H1.push (.cells [I 0, I 0, I 0, I 0, I 0, I 0, I 0, I 0, I 0, I 0, I 0, I 0, I 0, I 0, I 0, I 0, I 0, I 0, I 0, I 0, I 0, I 0, I 0, I 0] false)) = Hb
  have hkb : Keeps H1 Hb := by rw [← hHb]; exact Keeps.push _ _
  have hnb : Hb.n = H1.n + 1 := by rw [← hHb]; rfl
  have hgb : Hb.get H1.n = .cells [I 0, I 0, I 0, I 0, I 0, I 0, I 0, I 0, I 0, I 0, I 0, I 0, I 0, I 0, I 0, I 0, I 0, I 0, I 0, I 0, I 0, I 0, I 0, I 0] false := by rw [← hHb]; simp [Heap.push]
  have hsl : (⟨some (Hb.n, 0), (s.len : Int).toNat, (s.len : Int).toNat, none⟩ : Sl) = numSl Hb.n l.length := by
    rw [hlen]; simp [numSl]
  have ha0 : Arr (Hb.push (.cells (repL (s.len : Int).toNat [.bool false]) false)) Hb.n (flg l.length []) := by
    rw [hlen, Int.toNat_natCast, flg_nil]
    exact Arr.push (by rw [flg_len]; omega)
  have hb0 : Board [I 0, I 0, I 0, I 0, I 0, I 0, I 0, I 0, I 0, I 0, I 0, I 0, I 0, I 0, I 0, I 0, I 0, I 0, I 0, I 0, I 0, I 0, I 0, I 0] (nowS l []) := by
    refine ⟨rfl, fun p hp => ?_⟩
    show (List.replicate 24 (I 0))[p]? = some (I 0)
    rw [List.getElem?_replicate, if_pos hp]
  refine wp_blk ?_
  refine wp_range (σ := List Nat × List HV) o.length (fun i _ => [I i])
    (fun i x H' => Keeps H1 H' ∧ o.take i = x.1.map (fun y : Nat => (y : Int)) ∧ Ser l x.1 ∧ Board x.2 (nowS l x.1) ∧ H'.get H1.n = .cells x.2 false ∧ H1.n < H'.n ∧ Arr H' Hb.n (flg l.length x.1))
    ([], _) rfl ⟨hkb.trans (Keeps.push _ _), by simp, fun t k hk => by simp at hk, hb0, by rw [(Keeps.push Hb _).get _ (by omega)]; exact hgb, by simp [Heap.push]; omega, ha0⟩ ?_ ?_
  · rintro i ⟨S, y⟩ H2 hi ⟨hk2, hS, hser, hb, hgy, hln, ha⟩
    simp only at hS hser hb hgy ha
    have hs2 := hs.sl.keeps hk2
    have ho2 : Ints H2 s2 o := SlR.keeps ho hk2
    refine wp_uI (wp_nl (wp_cond (fun _ => ?_) (fun hc => ?_)))
    · refine wp_ixC ho2 (by omega) (ho2.at hi) (fun _ _ => wp_asI ?_)
      refine wp_jn (wp.mono (Q := fun lf H' => ∃ z : Bool, lf = .norm [.bool z] ∧ ∃ y', H' = H2.set H1.n (.cells y' false) ∧
          ((z = true ∧ ∀ k : Nat, o[i] = (k : Int) → ¬ (k ∉ S ∧ ∃ d, l[k]? = some d ∧ Next (nowS l S) d)) ∨
           (z = false ∧ ∃ k : Nat, o[i] = (k : Int) ∧ k ∉ S ∧ ∃ d, l[k]? = some d ∧ Next (nowS l S) d ∧ Board y' (after (nowS l S) d.w)))) ?_ ?_)
      · have same := Heap.set_same hgy
        refine wp_cond (fun c1 => wp_ret ⟨true, rfl, y, same.symm, .inl ⟨rfl, fun k hk => ?_⟩⟩) (fun c1 => wp_cond (fun c2 => wp_ret ⟨true, rfl, y, same.symm, .inl ⟨rfl, fun k hk hh2 => ?_⟩⟩) (fun c2 => ?_))
        · simp at c1; omega
        · obtain ⟨_, d, hd, _⟩ := hh2
          have := (List.getElem?_eq_some_iff.1 hd).1
          rw [hlen] at c2; simp at c2; omega
        · rw [hlen] at c2
          simp at c1 c2
          obtain ⟨k, hk⟩ : ∃ k : Nat, o[i] = (k : Int) := ⟨o[i].toNat, by omega⟩
          have hkl : k < l.length := by omega
          rw [hk]
          refine wp_arrget ha hsl flg_len (by omega) (v := .bool (decide (k ∈ S))) (by simpa using flg_get hkl) (fun _ _ => wp_asB ?_)
          refine wp_cond (fun c3 => wp_ret ⟨true, rfl, y, same.symm, .inl ⟨rfl, fun k' hk' hh2 => ?_⟩⟩) (fun c3 => ?_)
          · have : k' = k := by omega
            subst this
            exact hh2.1 (by simpa using c3)
          · have hkS : k ∉ S := by simpa using c3
            have hd : l[k]? = some l[k] := List.getElem?_eq_getElem hkl
            refine wp_ixN hs2 (by omega) (hs.at hkl) (fun _ _ => wp_uL (wp_uL (wp_nl ?_)))
            refine wp_bnd (s26_wp hb hgy ⟨SlR.keeps (hs.r hkl) hk2, SlR.keeps (hs.w hkl) hk2⟩ ⟨SlR.off (hs.r hkl) (Nat.le_refl _), SlR.off (hs.w hkl) (Nat.le_refl _)⟩ (hh.rs hd).okR (hh.ws hd).okR (hh.ws hd).uniq fun z y' hz hzb => wp_asB (wp_ret ⟨!z, rfl, y', rfl, ?_⟩))
            cases z
            · refine .inl ⟨rfl, fun k' hk' hh2 => ?_⟩
              have : k' = k := by omega
              subst this
              obtain ⟨_, d, hd', hnx⟩ := hh2
              rw [hd] at hd'; cases hd'
              have := hz.2 hnx; cases this
            · exact .inr ⟨rfl, k, rfl, hkS, _, hd, hz.1 rfl, hzb rfl⟩
      · rintro _ H3 ⟨z, rfl, y', rfl, hz⟩
        have hk3 : Keeps H1 (H2.set H1.n (.cells y' false)) := hk2.set (Nat.le_refl _) _
        rcases hz with ⟨rfl, hbad⟩ | ⟨rfl, k, hk, hkS, d, hd, hnx, hby⟩
        · refine wp_uB (wp_nl (wp_cond (fun _ => wp_ret ?_) (fun hc => by cases hc)))
          exact no _ hk3 (not_replays hS hi hbad)
        · refine wp_uB (wp_nl (wp_cond (fun hc => by cases hc) (fun _ => ?_)))
          have hkl : k < l.length := (List.getElem?_eq_some_iff.1 hd).1
          have ha3 : Arr (H2.set H1.n (.cells y' false)) Hb.n (flg l.length S) := ha.besides (by simp [Heap.set]) (by simp only [Heap.set]; rw [if_neg (by omega)])
          rw [hk]
          refine wp_arrset ha3 hsl flg_len (by omega) (by simpa [flg_len] using hkl) rfl (fun ha4 => wp_ret ?_)
          rw [Int.toNat_natCast, flg_set hkl] at ha4 ⊢
          refine ⟨(S ++ [k], y'), by rw [wr_succ hi ho.lt], hk3.set (by omega) _, ?_, ser_snoc hser ⟨hkS, d, hd, hnx⟩, ?_, ?_, ?_, ha4⟩
          · rw [List.take_succ_eq_append_getElem hi, hS, hk]; simp
          · show Board y' (nowS l (S ++ [k]))
            rw [nowS_snoc' hd]; exact hby
          · simp only [Heap.set]
            rw [if_neg (by omega), if_pos trivial]
          · exact hln
    · rw [holen] at hc; simp at hc; omega
  · rintro ⟨S, y⟩ H2 ⟨hk2, hS, hser, hb, hgy, hln, ha⟩
    simp only at hS hser
    refine wp_uI (wp_nl (wp_cond (fun hc => ?_) (fun _ => wp_ret ?_)))
    · rw [holen] at hc; simp at hc
    · rw [List.take_length] at hS
      exact wp_nl (wp_ret (h true H2 hk2 ⟨fun _ => ⟨h160, hcan, hol, S, hS, hser⟩, fun _ => rfl⟩))
open Classical
/-! histories of the same entries -/
/-- a row that was just made. -/
theorem slr_push {H : Heap} {cs : List HV} {sz n : Nat} (ls : List (List HV)) (hn : n = ls.length) (hc : cs = ls.flatten) (hz : ∀ l ∈ ls, l.length = sz) (hl : ls.length ≤ 1000000) : SlR (H.push (.cells cs false)) ⟨some (H.n, 0), n, n, none⟩ sz ls := by
  subst hn; subst hc
  refine ⟨rfl, by omega, Nat.le_refl _, .inl rfl, hz, .inr ⟨H.n, 0, ls.flatten, false, rfl, by simp [Heap.push], by simp [Heap.push], ?_, ?_⟩⟩
  · rw [flatten_length hz]; omega
  · rw [List.drop_zero, ← flatten_length hz, List.take_length]
def eA (v : Int) : En := ⟨0, 0, v⟩
theorem single_one {e : En} {least : Int} (h : okE least e) : Single [e] least := by
  refine ⟨by simp, fun i x hx => ?_⟩
  cases i with
  | zero =>
    simp at hx; subst hx
    exact ⟨h, fun j hj => by omega⟩
  | succ i => simp at hx
theorem s8_wp {D : HV → List HV → M HV} (hD : ∀ xs, D (.func n_witness_ahead [] []) xs = f_witness_ahead noD xs) {H : Heap} {Q : HV → Heap → Prop} (h : ∀ H', Keeps H H' → Q (.bool true) H') : wp (f_law30_alive D []) Q H := by
  unfold f_law30_alive
  refine wp_fin (wp_nl (wp_nw (wp_nw (wp_nw (wp_nw ?_)))))
  generalize hH1 : H.push (.cells [I 0, I 0, I 0] false) = H1
  generalize hH2 : H1.push (.cells [I 0, I 0, I 1] false) = H2
  generalize hH3 : H2.push (.cells [I 0, I 0, I 2] false) = H3
  have k1 : Keeps H H1 := by rw [← hH1]; exact Keeps.push _ _
  have k2 : Keeps H1 H2 := by rw [← hH2]; exact Keeps.push _ _
  have k3 : Keeps H2 H3 := by rw [← hH3]; exact Keeps.push _ _
  have z1 : Ents H1 ⟨some (H.n, 0), 1, 1, none⟩ [eA 0] := by rw [← hH1]; exact slr_push _ rfl rfl (by simp [En.cs]) (by simp)
  have z2 : Ents H2 ⟨some (H1.n, 0), 1, 1, none⟩ [eA 1] := by rw [← hH2]; exact slr_push _ rfl rfl (by simp [En.cs]) (by simp)
  have z3 : Ents H3 ⟨some (H2.n, 0), 1, 1, none⟩ [eA 2] := by rw [← hH3]; exact slr_push _ rfl rfl (by simp [En.cs]) (by simp)
  let dA : Dd := ⟨⟨some (H.n, 0), 1, 1, none⟩, ⟨some (H1.n, 0), 1, 1, none⟩, [eA 0], [eA 1]⟩
  let dB : Dd := ⟨⟨some (H.n, 0), 1, 1, none⟩, ⟨some (H2.n, 0), 1, 1, none⟩, [eA 0], [eA 2]⟩
  generalize hH4 : H3.push (.cells [.sl (⟨some (H.n, 0), 1, 1, none⟩), .sl (⟨some (H1.n, 0), 1, 1, none⟩), .sl (⟨some (H.n, 0), 1, 1, none⟩), .sl (⟨some (H2.n, 0), 1, 1, none⟩)] false) = H4
  have k4 : Keeps H3 H4 := by rw [← hH4]; exact Keeps.push _ _
  have sl4 : SlR H4 ⟨some (H3.n, 0), 2, 2, none⟩ 2 ([dA, dB].map Dd.cs) := by rw [← hH4]; exact slr_push _ rfl rfl (by simp [Dd.cs]) (by simp)
  have y1 : Ents H4 ⟨some (H.n, 0), 1, 1, none⟩ [eA 0] := SlR.keeps z1 ((k2.trans k3).trans k4)
  have y2 : Ents H4 ⟨some (H1.n, 0), 1, 1, none⟩ [eA 1] := SlR.keeps z2 (k3.trans k4)
  have y3 : Ents H4 ⟨some (H2.n, 0), 1, 1, none⟩ [eA 2] := SlR.keeps z3 k4
  have deeds : Deeds H4 ⟨some (H3.n, 0), 2, 2, none⟩ [dA, dB] := ⟨sl4, fun d hd => by
    rcases List.mem_cons.1 hd with rfl | hd
    · exact ⟨y1, y2⟩
    · simp at hd; subst hd; exact ⟨y1, y3⟩⟩
  have fA : DFit dA := ⟨fun e he => by simp [dA] at he; subst he; simp [eA], fun e he => by simp [dA] at he; subst he; simp [eA]⟩
  have fB : DFit dB := ⟨fun e he => by simp [dB] at he; subst he; simp [eA], fun e he => by simp [dB] at he; subst he; simp [eA]⟩
  have ok0 : okE 0 (eA 0) := by simp [okE, eA]
  have ok1 : okE 1 (eA 1) := by simp [okE, eA]
  have ok2 : okE 1 (eA 2) := by simp [okE, eA]
  have can2 : CanP [dA, dB] := by
    refine ⟨fun d hd => ?_, fun d hd => ?_⟩
    · rcases List.mem_cons.1 hd with rfl | hd
      · exact ⟨single_one ok0, single_one ok1⟩
      · simp at hd; subst hd; exact ⟨single_one ok0, single_one ok2⟩
    · rcases List.mem_cons.1 hd with rfl | hd
      · refine ⟨fun e he => ?_, fun e he hv => ?_⟩
        · simp [dA] at he; subst he; simp [writersN, dA, dB, eA]
        · simp [dA] at he; subst he; simp [eA] at hv
      · simp at hd; subst hd
        refine ⟨fun e he => ?_, fun e he hv => ?_⟩
        · simp [dB] at he; subst he; simp [writersN, dA, dB, eA]
        · simp [dB] at he; subst he; simp [eA] at hv
  have can1 : CanP [dA] := by
    refine ⟨fun d hd => ?_, fun d hd => ?_⟩
    · simp at hd; subst hd; exact ⟨single_one ok0, single_one ok1⟩
    · simp at hd; subst hd
      refine ⟨fun e he => ?_, fun e he hv => ?_⟩
      · simp [dA] at he; subst he; simp [writersN, dA, eA]
      · simp [dA] at he; subst he; simp [eA] at hv
  have ab : Ahead dA dB := .inr (.inr ⟨eA 0, by simp [dA], eA 2, by simp [dB], rfl, by simp [eA], by simp [eA]⟩)
  have ba : Ahead dB dA := .inr (.inr ⟨eA 0, by simp [dB], eA 1, by simp [dA], rfl, by simp [eA], by simp [eA]⟩)
  have ns1 : NoSelf [dA] := by
    intro d hd
    simp at hd; subst hd
    rintro ⟨a, ha, b, hb, _, _, hle⟩
    simp [dA] at ha hb
    subst ha; subst hb
    simp [eA] at hle
  refine wp_bnd (s10_wp (l := [dA, dB]) deeds (fun d hd => by
    rcases List.mem_cons.1 hd with rfl | hd
    · exact fA
    · simp at hd; subst hd; exact fB) hD (fun hh => by simp at hh) (fun _ hh => absurd can2 hh) (fun _ _ H5 k5 _ => ?_) (fun _ _ _ S s' H' hS hch _ => ?_))
  · refine wp_asT (wp_uL (wp_uI (wp_nl ?_)))
    refine wp_gd rfl (wp_gd rfl (wp_gd rfl (wp_gd rfl (wp_gd rfl ?_))))
    have d5 : Deeds H5 ⟨some (H3.n, 0), 1, 2, none⟩ [dA] :=
      ⟨by
        have := SlR.pre (sl4.keeps k5) (i := 1) (by simp)
        exact this, fun d hd => by simp at hd; subst hd; exact ⟨SlR.keeps y1 k5, SlR.keeps y2 k5⟩⟩
    refine wp_bnd (s10_wp (l := [dA]) (s := ⟨some (H3.n, 0), 1, 2, none⟩) d5 (fun d hd => by simp at hd; subst hd; exact fA) hD (fun hh => by simp at hh) (fun _ hh => absurd can1 hh) (fun _ _ H6 k6 hbad => ?_) (fun _ _ _ S s' H6 hS hch ho => ?_))
    · exfalso
      rcases hbad with hb | ⟨_, S, hS, _, hno⟩
      · exact hb ns1
      · have : S = [] := by cases S with
          | nil => rfl
          | cons x S => simp at hS
        subst this
        refine hno 0 ⟨by simp, by simp, fun i hi _ hne => by simp at hi; omega⟩
    · have hS0 : S = [0] := by
        match S, hS with
        | [k], _ =>
          have := (hch 0 k rfl).1.1
          simp at this
          rw [this]
      subst hS0
      have h6 : SlR H6 s' 1 [[I 0]] := ho.slR
      have hlen : s'.len = 1 := h6.len
      refine wp_asT (wp_uL (wp_uI (wp_nl ?_)))
      have hK : Keeps H H6 := (((k1.trans k2).trans k3).trans k4).trans (k5.trans ho.keeps)
      refine wp_jn (wp.mono (Q := fun lf H' => lf = .norm [.bool true] ∧ Keeps H H') ?_ ?_)
      · refine wp_cond (fun _ => ?_) (fun c => by simp at c)
        refine wp_cond (fun _ => ?_) (fun c => by simp at c)
        refine wp_cond (fun _ => ?_) (fun c => by rw [hlen] at c; simp at c)
        refine wp_ixC h6 (by omega) (v := I 0) rfl (fun _ _ => wp_asI ?_)
        refine wp_cond (fun _ => ?_) (fun c => by simp at c)
        refine wp_gd rfl (wp_gd rfl (wp_gd rfl (wp_gd rfl (wp_gd rfl ?_))))
        have d6 : Deeds H6 ⟨some (H3.n, 0), 1, 2, none⟩ [dA] := ⟨d5.sl.keeps ho.keeps, fun d hd => ⟨SlR.keeps (d5.ok d hd).1 ho.keeps, SlR.keeps (d5.ok d hd).2 ho.keeps⟩⟩
        refine wp_bnd (s15_wp (l := [dA]) (o := [0]) (s := ⟨some (H3.n, 0), 1, 2, none⟩) d6 h6 fun z H7 k7 hz => wp_asB (wp_ret ⟨?_, hK.trans k7⟩))
        have : z = true := hz.2 ⟨by simp, can1, rfl, [0], rfl, chain_ser ⟨can1⟩ ns1 hch⟩
        rw [this]
      · rintro _ H7 ⟨rfl, hk7⟩
        exact wp_uB (wp_nl (wp_ret (h H7 hk7)))
  · exfalso
    have hk : 0 < S.length := by rw [hS]; simp
    have hp := (hch 0 _ (List.getElem?_eq_getElem hk)).1
    obtain ⟨hp1, _, hp2⟩ := hp
    simp only [List.length_cons, List.length_nil] at hp1 hp2
    have h01 : Ahd [dA, dB] 0 1 := ⟨dA, dB, rfl, rfl, ab⟩
    have h10 : Ahd [dA, dB] 1 0 := ⟨dB, dA, rfl, rfl, ba⟩
    rcases Nat.lt_or_ge S[0] 1 with h1 | h1
    · have : S[0] = 0 := by omega
      rw [this] at hp2
      exact hp2 1 (by omega) (by simp) (by omega) h10
    · have : S[0] = 1 := by omega
      rw [this] at hp2
      exact hp2 0 (by omega) (by simp) (by omega) h01
end Go.Proofs.YtoogohhlmdgdpaaGreat.HL
