/- What the functions of the law's texts compute: entries and deeds. Conditions: none (lemmas). -/
import Derived.Test.YthlfemjbeihmbaaHLFa
import Derived.Test.YthlfemjbeihmbaaHLM
namespace Go.Proofs.Ythlfemjbeihmbaa.HL
open Go

structure En where
  k : Int
  i : Int
  v : Int
deriving DecidableEq
def En.cs (e : En) : List HV := [I e.k, I e.i, I e.v]
def Ents (H : Heap) (s : Sl) (l : List En) : Prop := SlR H s 3 (l.map En.cs)
structure Dd where
  rs : Sl
  ws : Sl
  r : List En
  w : List En
def Dd.cs (d : Dd) : List HV := [.sl d.rs, .sl d.ws]
structure Deeds (H : Heap) (s : Sl) (l : List Dd) : Prop where
  sl : SlR H s 2 (l.map Dd.cs)
  ok : ∀ d ∈ l, Ents H d.rs d.r ∧ Ents H d.ws d.w

def alike (a b : En) : Bool := a.k == b.k && a.i == b.i

theorem bool_eq {p : Bool} {q : Prop} [Decidable q] (h : p = true ↔ q) : p = decide q := by
  cases p <;> simp_all

theorem s29_wp {D : HV → List HV → M HV} {H : Heap} {Q : HV → Heap → Prop} (a b : En) (h : Q (.bool (alike a b)) H) : wp (s29 D [.agg a.cs, .agg b.cs]) Q H := by
  unfold s29
  refine wp_fin (wp_uA (wp_uI (wp_uI (wp_uI (wp_nl (wp_uA (wp_uI (wp_uI (wp_uI (wp_nl (wp_nl ?_)))))))))))
  refine wp_jn (wp_cond (fun h1 => wp_ret ?_) (fun h1 => wp_ret ?_))
  all_goals
    refine wp_uB (wp_nl (wp_ret ?_))
    unfold alike at h
    rw [h1] at h
    simpa using h

theorem Ents.at {H : Heap} {s : Sl} {l : List En} (_h : Ents H s l) {i : Nat} (hi : i < l.length) : (l.map En.cs)[((i : Nat) : Int).toNat]? = some (l[i]).cs := by simp [hi]
theorem Ents.len {H : Heap} {s : Sl} {l : List En} (h : Ents H s l) : s.len = l.length := by have := SlR.len h; simpa using this
theorem Ents.lt {H : Heap} {s : Sl} {l : List En} (h : Ents H s l) : l.length ≤ 9223372036854775807 := by have := SlR.lt h; simpa using this
/-- a round's step. -/
theorem wr_succ {i len : Nat} (h : i < len) (hl : len ≤ 9223372036854775807) : wr ((i : Int) + 1) = ((i + 1 : Nat) : Int) := by
  rw [wr_small (by omega) (by omega)]; rfl

theorem s32_wp {D : HV → List HV → M HV} {H : Heap} {Q : HV → Heap → Prop} {s : Sl} {l : List En} (hs : Ents H s l) (e : En) (h : ∀ n : Int, (0 ≤ n ↔ e ∈ l) → Q (I n) H) : wp (s32 D [.sl s, .agg e.cs]) Q H := by
  unfold s32
  refine wp_fin (wp_uL (wp_uA (wp_uI (wp_uI (wp_uI (wp_nl (wp_nl ?_)))))))
  refine wp_blk ?_
  refine wp_range (σ := Unit) l.length (fun i _ => [I i]) (fun i _ H' => H' = H ∧ ∀ j, j < i → l[j]? ≠ some e) () rfl ⟨rfl, fun j hj => by omega⟩ ?_ ?_
  · rintro i _ H' hi ⟨rfl, hno⟩
    refine wp_uI (wp_nl (wp_cond (fun _ => ?_) (fun hc => ?_)))
    · refine wp_ixN hs (by omega) (hs.at hi) (fun _ _ => wp_uI (wp_uI (wp_uI (wp_nl ?_))))
      refine wp_cond (fun hc => wp_ret ?_) (fun hc => wp_ret ?_)
      · have he : e = l[i] := by
          generalize l[i] = x at hc
          cases e; cases x
          simp only [Bool.cond_eq_ite, beq_iff_eq] at hc
          simp_all
        exact h i ⟨fun _ => he ▸ List.getElem_mem _, fun _ => by omega⟩
      · have he : e ≠ l[i] := by
          intro he; rw [← he] at hc; simp at hc
        refine ⟨(), by rw [wr_succ hi hs.lt], rfl, fun j hj => ?_⟩
        by_cases hji : j = i
        · subst hji; rw [List.getElem?_eq_getElem hi]; intro hh; cases hh; exact he rfl
        · exact hno j (by omega)
    · rw [hs.len] at hc; simp at hc; omega
  · rintro _ H' ⟨rfl, hno⟩
    refine wp_uI (wp_nl (wp_cond (fun hc => ?_) (fun _ => wp_ret ?_)))
    · rw [hs.len] at hc; simp at hc
    · refine wp_nl (wp_ret ?_)
      refine h (-1) ⟨fun hh => by omega, fun hm => ?_⟩
      obtain ⟨j, hj, he⟩ := List.getElem_of_mem hm
      exact absurd (by rw [List.getElem?_eq_getElem hj, he]) (hno j hj)

theorem s31_wp {D : HV → List HV → M HV} {H : Heap} {Q : HV → Heap → Prop} {s : Sl} {l : List En} (hs : Ents H s l) (e : En) (h : ∀ b : Bool, (b = true ↔ e ∈ l) → Q (.bool b) H) : wp (s31 D [.sl s, .agg e.cs]) Q H := by
  unfold s31
  refine wp_fin (wp_uL (wp_uA (wp_uI (wp_uI (wp_uI (wp_nl (wp_nl ?_)))))))
  refine wp_bnd (s32_wp hs e fun n hn => ?_)
  exact wp_asI (wp_ret (h (decide (n ≥ 0)) (by simpa using hn)))

def okE (least : Int) (e : En) : Prop := 0 ≤ e.k ∧ e.k ≤ 2 ∧ 0 ≤ e.i ∧ e.i < 8 ∧ least ≤ e.v
def Single (l : List En) (least : Int) : Prop := l.length ≤ 24 ∧ ∀ (i : Nat) (e : En), l[i]? = some e → okE least e ∧ ∀ (j : Nat), j < i → ∀ (o : En), l[j]? = some o → alike e o = false
/-- what a join's leaves hand on: one bool. -/
def LB (p : Prop) (H : Heap) : Leaf → Heap → Prop := fun l H' => ∃ b : Bool, l = .norm [.bool b] ∧ (b = true ↔ p) ∧ H' = H
theorem LB.mk {p : Prop} {H : Heap} (b : Bool) (h : b = true ↔ p) : LB p H (.norm [.bool b]) H := ⟨b, rfl, h, rfl⟩

theorem s27_wp {D : HV → List HV → M HV} {H : Heap} {Q : HV → Heap → Prop} {s : Sl} {l : List En} (hs : Ents H s l) (least : Int) (h : ∀ b : Bool, (b = true ↔ Single l least) → Q (.bool b) H) : wp (s27 D [.sl s, I least]) Q H := by
  unfold s27
  refine wp_fin (wp_uL (wp_uI (wp_nl (wp_cond (fun h1 => ?_) (fun h1 => ?_)))))
  · refine wp_ret (h false ⟨fun hh => (by cases hh), fun hh => ?_⟩)
    have := hh.1
    rw [hs.len] at h1; simp at h1; omega
  · rw [hs.len] at h1
    have h24 : l.length ≤ 24 := by simp at h1; omega
    refine wp_blk ?_
    refine wp_range (σ := Unit) l.length (fun i _ => [I i]) (fun i _ H' => H' = H ∧ ∀ (j : Nat) (e : En), j < i → l[j]? = some e → okE least e ∧ ∀ (q : Nat), q < j → ∀ (o : En), l[q]? = some o → alike e o = false) () rfl ⟨rfl, fun j e hj => by omega⟩ ?_ ?_
    · rintro i _ H' hi ⟨rfl, hno⟩
      refine wp_uI (wp_nl (wp_cond (fun _ => ?_) (fun hc => ?_)))
      · refine wp_ixN hs (by omega) (hs.at hi) (fun _ _ => wp_uI (wp_uI (wp_uI (wp_nl ?_))))
        refine wp_jn (wp.mono (Q := LB (¬ okE least l[i]) H') ?_ ?_)
        · refine wp_cond (fun c1 => wp_ret (.mk _ ?_)) fun c1 => wp_cond (fun c2 => wp_ret (.mk _ ?_)) fun c2 => wp_cond (fun c3 => wp_ret (.mk _ ?_)) fun c3 => wp_cond (fun c4 => wp_ret (.mk _ ?_)) fun c4 => wp_ret (.mk _ ?_)
          all_goals simp only [decide_eq_true_eq, decide_eq_false_iff_not] at *
          all_goals simp only [okE, true_iff]
          all_goals omega
        · rintro _ H3 ⟨b, rfl, hb, rfl⟩
          refine wp_uB (wp_nl (wp_cond (fun c => wp_ret (h false ⟨fun hh => (by cases hh), fun hh => ?_⟩)) (fun c => ?_)))
          · exact absurd ((hh.2 i _ (List.getElem?_eq_getElem hi)).1) (hb.1 c)
          · have hok : okE least l[i] := by
              rcases Classical.em (okE least l[i]) with hk | hk
              · exact hk
              · have := hb.2 hk; rw [c] at this; cases this
            refine wp_slice_pre hs (by simpa using hi) ?_
            have hp := SlR.pre hs (i := i) (by simp; omega)
            have hpl : (s.pre 3 i).len = i := by have := hp.len; simp at this; omega
            refine wp_blk ?_
            refine wp_range (σ := Unit) i (fun j _ => [I j]) (fun j _ H2 => H2 = H3 ∧ ∀ (q : Nat), q < j → ∀ (o : En), l[q]? = some o → alike l[i] o = false) () rfl ⟨rfl, fun j hj => by omega⟩ ?_ ?_
            · rintro j _ H2 hj ⟨rfl, hall⟩
              refine wp_uI (wp_nl (wp_cond (fun _ => ?_) (fun hc => ?_)))
              · have hjl : j < l.length := by omega
                refine wp_ixN (s := s.pre 3 i) hp (by omega) (l := (l[j]).cs) (by simp [hj, hjl]) (fun _ _ => wp_uI (wp_uI (wp_uI (wp_nl ?_))))
                refine wp_bnd (s29_wp l[i] l[j] ?_)
                refine wp_asB (wp_cond (fun c2 => wp_ret (h false ⟨fun hh => (by cases hh), fun hh => ?_⟩)) (fun c2 => wp_ret ?_))
                · have := (hh.2 i _ (List.getElem?_eq_getElem hi)).2 j hj _ (List.getElem?_eq_getElem hjl)
                  rw [c2] at this; cases this
                · refine ⟨(), by rw [wr_succ hj (by have := hs.lt; omega)], rfl, fun q hq o ho => ?_⟩
                  by_cases hqj : q = j
                  · subst hqj; rw [List.getElem?_eq_getElem hjl] at ho; cases ho; exact c2
                  · exact hall q (by omega) o ho
              · simp at hc; omega
            · rintro _ H2 ⟨rfl, hall⟩
              refine wp_uI (wp_nl (wp_cond (fun hc => ?_) (fun _ => wp_ret ?_)))
              · simp at hc
              · refine wp_nl (wp_ret ?_)
                refine ⟨(), by rw [wr_succ hi hs.lt], rfl, fun j e hj hje => ?_⟩
                by_cases hji : j = i
                · subst hji
                  rw [List.getElem?_eq_getElem hi] at hje; cases hje
                  exact ⟨hok, hall⟩
                · exact hno j e (by omega) hje
      · rw [hs.len] at hc; simp at hc; omega
    · rintro _ H' ⟨rfl, hno⟩
      refine wp_uI (wp_nl (wp_cond (fun hc => ?_) (fun _ => wp_ret ?_)))
      · rw [hs.len] at hc; simp at hc
      · refine wp_nl (wp_ret (h true ⟨fun _ => ⟨h24, fun i e he => hno i e (List.getElem?_eq_some_iff.1 he).1 he⟩, fun _ => rfl⟩))

theorem Deeds.at {H : Heap} {s : Sl} {l : List Dd} (_ : Deeds H s l) {i : Nat} (hi : i < l.length) : (l.map Dd.cs)[((i : Nat) : Int).toNat]? = some (l[i]).cs := by simp [hi]
theorem Deeds.len {H : Heap} {s : Sl} {l : List Dd} (h : Deeds H s l) : s.len = l.length := by have := h.sl.len; simpa using this
theorem Deeds.lt {H : Heap} {s : Sl} {l : List Dd} (h : Deeds H s l) : l.length ≤ 9223372036854775807 := by have := h.sl.lt; simpa using this
theorem Deeds.r {H : Heap} {s : Sl} {l : List Dd} (h : Deeds H s l) {i : Nat} (hi : i < l.length) : Ents H (l[i]).rs (l[i]).r := (h.ok _ (List.getElem_mem hi)).1
theorem Deeds.w {H : Heap} {s : Sl} {l : List Dd} (h : Deeds H s l) {i : Nat} (hi : i < l.length) : Ents H (l[i]).ws (l[i]).w := (h.ok _ (List.getElem_mem hi)).2

/-- how many deeds wrote an entry. -/
def writersN (l : List Dd) (e : En) : Nat := l.countP fun d => decide (e ∈ d.w)
theorem countP_take_succ {α : Type} (p : α → Bool) (l : List α) {i : Nat} (hi : i < l.length) : (l.take (i + 1)).countP p = (l.take i).countP p + (if p l[i] then 1 else 0) := by
  rw [List.take_succ_eq_append_getElem hi, List.countP_append]
  simp [List.countP_cons]

theorem s28_wp {D : HV → List HV → M HV} {H : Heap} {Q : HV → Heap → Prop} {s : Sl} {l : List Dd} (hs : Deeds H s l) (e : En) (h : Q (I (writersN l e)) H) : wp (s28 D [.sl s, .agg e.cs]) Q H := by
  unfold s28
  refine wp_fin (wp_uL (wp_uA (wp_uI (wp_uI (wp_uI (wp_nl (wp_nl ?_)))))))
  refine wp_blk ?_
  refine wp_range (σ := Unit) l.length (fun i _ => [I ((l.take i).countP fun d => decide (e ∈ d.w) : Nat), I i]) (fun i _ H' => H' = H) () (by simp) rfl ?_ ?_
  · rintro i _ H' hi rfl
    refine wp_uI (wp_uI (wp_nl (wp_cond (fun _ => ?_) (fun hc => ?_))))
    · refine wp_blk ?_
      refine wp_ixN hs.sl (by omega) (hs.at hi) (fun _ _ => wp_uL (wp_uL (wp_nl ?_)))
      refine wp_bnd (s31_wp (hs.w hi) e fun b hb => ?_)
      have hcnt := countP_take_succ (fun d => decide (e ∈ d.w)) l hi
      have hle : (l.take i).countP (fun d => decide (e ∈ d.w)) ≤ i := Nat.le_trans List.countP_le_length (by simp; omega)
      have hlt := hs.lt
      refine wp_asB (wp_cond (fun c => wp_ret ?_) (fun c => wp_ret ?_))
      · refine wp_uI (wp_nl (wp_ret ⟨(), ?_, rfl⟩))
        have hm : e ∈ (l[i]).w := hb.1 c
        simp only
        rw [hcnt, wr_succ hi hs.lt, wr_small (by omega) (by omega)]
        simp [hm]
      · refine wp_uI (wp_nl (wp_ret ⟨(), ?_, rfl⟩))
        have hm : ¬ e ∈ (l[i]).w := fun hh => by have := hb.2 hh; rw [c] at this; cases this
        simp only
        rw [hcnt, wr_succ hi hs.lt]
        simp [hm]
    · rw [hs.len] at hc; simp at hc; omega
  · rintro _ H' rfl
    refine wp_uI (wp_uI (wp_nl (wp_cond (fun hc => ?_) (fun _ => wp_ret ?_))))
    · rw [hs.len] at hc; simp at hc
    · refine wp_uI (wp_nl (wp_ret ?_))
      simp only [List.take_length]
      exact h

/-- is some entry of the one row of a thing of the other, and so much younger? -/
def Younger (old young : List En) (much : Int) : Prop := ∃ a ∈ old, ∃ b ∈ young, alike a b = true ∧ much ≤ b.v ∧ a.v ≤ b.v - much

theorem s17_wp {D : HV → List HV → M HV} {H : Heap} {Q : HV → Heap → Prop} {s t : Sl} {l m : List En} (hs : Ents H s l) (ht : Ents H t m) {much : Int} (h0 : 0 ≤ much) (hmx : ∀ b ∈ m, b.v ≤ 9223372036854775807)
    (h : ∀ b : Bool, (b = true ↔ Younger l m much) → Q (.bool b) H) : wp (s17 D [.sl s, .sl t, I much]) Q H := by
  unfold s17
  refine wp_fin (wp_uL (wp_uL (wp_uI (wp_nl ?_))))
  refine wp_blk ?_
  refine wp_range (σ := Unit) l.length (fun i _ => [I i]) (fun i _ H' => H' = H ∧ ∀ (j : Nat) (a : En), j < i → l[j]? = some a → ∀ b ∈ m, ¬ (alike a b = true ∧ much ≤ b.v ∧ a.v ≤ b.v - much)) () rfl ⟨rfl, fun j a hj => by omega⟩ ?_ ?_
  · rintro i _ H' hi ⟨rfl, hno⟩
    refine wp_uI (wp_nl (wp_cond (fun _ => ?_) (fun hc => ?_)))
    · refine wp_ixN hs (by omega) (hs.at hi) (fun _ _ => wp_uI (wp_uI (wp_uI (wp_nl ?_))))
      refine wp_blk ?_
      refine wp_range (σ := Unit) m.length (fun j _ => [I j]) (fun j _ H2 => H2 = H' ∧ ∀ (q : Nat) (b : En), q < j → m[q]? = some b → ¬ (alike l[i] b = true ∧ much ≤ b.v ∧ (l[i]).v ≤ b.v - much)) () rfl ⟨rfl, fun j a hj => by omega⟩ ?_ ?_
      · rintro j _ H2 hj ⟨rfl, hno2⟩
        refine wp_uI (wp_nl (wp_cond (fun _ => ?_) (fun hc => ?_)))
        · refine wp_ixN ht (by omega) (ht.at hj) (fun _ _ => wp_uI (wp_uI (wp_uI (wp_nl ?_))))
          refine wp_jn (wp.mono (Q := LB (alike l[i] m[j] = true ∧ much ≤ (m[j]).v ∧ (l[i]).v ≤ (m[j]).v - much) H2) ?_ ?_)
          · refine wp_bnd (s29_wp l[i] m[j] (wp_asB (wp_cond (fun c1 => wp_cond (fun c2 => wp_ret (.mk _ ?_)) (fun c2 => wp_ret (.mk _ ?_))) (fun c1 => wp_ret (.mk _ ?_)))))
            · have := hmx _ (List.getElem_mem hj)
              simp only [decide_eq_true_eq] at c2 ⊢
              rw [wr_small (by omega) (by omega)]
              exact ⟨fun h => ⟨c1, c2, h⟩, fun h => h.2.2⟩
            · simp only [decide_eq_false_iff_not] at c2
              exact ⟨fun h => (by cases h), fun h => absurd h.2.1 c2⟩
            · exact ⟨fun h => (by cases h), fun h => (by rw [h.1] at c1; cases c1)⟩
          · rintro _ H3 ⟨b, rfl, hb, rfl⟩
            refine wp_uB (wp_nl (wp_cond (fun c => wp_ret (h true ⟨fun _ => ⟨_, List.getElem_mem hi, _, List.getElem_mem hj, hb.1 c⟩, fun _ => rfl⟩)) (fun c => wp_ret ?_)))
            refine ⟨(), by rw [wr_succ hj ht.lt], rfl, fun q b' hq hqb => ?_⟩
            by_cases hqj : q = j
            · subst hqj; rw [List.getElem?_eq_getElem hj] at hqb; cases hqb
              intro hh; have := hb.2 hh; rw [c] at this; cases this
            · exact hno2 q b' (by omega) hqb
        · rw [ht.len] at hc; simp at hc; omega
      · rintro _ H2 ⟨rfl, hno2⟩
        refine wp_uI (wp_nl (wp_cond (fun hc => ?_) (fun _ => wp_ret ?_)))
        · rw [ht.len] at hc; simp at hc
        · refine wp_nl (wp_ret ⟨(), by rw [wr_succ hi hs.lt], rfl, fun j a hj hja b hb => ?_⟩)
          by_cases hji : j = i
          · subst hji; rw [List.getElem?_eq_getElem hi] at hja; cases hja
            obtain ⟨q, hq, rfl⟩ := List.getElem_of_mem hb
            exact hno2 q _ hq (List.getElem?_eq_getElem hq)
          · exact hno j a (by omega) hja b hb
    · rw [hs.len] at hc; simp at hc; omega
  · rintro _ H' ⟨rfl, hno⟩
    refine wp_uI (wp_nl (wp_cond (fun hc => ?_) (fun _ => wp_ret ?_)))
    · rw [hs.len] at hc; simp at hc
    · refine wp_nl (wp_ret (h false ⟨fun hh => (by cases hh), ?_⟩))
      rintro ⟨a, ha, b, hb, hh⟩
      obtain ⟨j, hj, rfl⟩ := List.getElem_of_mem ha
      exact absurd hh (hno j _ hj (List.getElem?_eq_getElem hj) b hb)
end Go.Proofs.Ythlfemjbeihmbaa.HL
