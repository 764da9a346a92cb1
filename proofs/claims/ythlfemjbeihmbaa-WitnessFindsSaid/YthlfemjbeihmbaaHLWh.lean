/- What the functions of the law's texts compute: the board. Conditions: none (lemmas). -/
import Derived.Test.YthlfemjbeihmbaaHLWg
namespace Go.Proofs.Ythlfemjbeihmbaa.HL
open Go

/-- a board: the versions of all things, by their places. -/
def Board (y : List HV) (f : Nat → Int) : Prop := y.length = 24 ∧ ∀ p, p < 24 → y[p]? = some (I (f p))
def OkR (l : List En) (least : Int) : Prop := ∀ e ∈ l, okE least e
theorem Single.okR {l : List En} {least : Int} (h : Single l least) : OkR l least := fun e he => by
  obtain ⟨j, hj, rfl⟩ := List.getElem_of_mem he
  exact (h.2 j _ (List.getElem?_eq_getElem hj)).1

/-- can a deed come next? -/
def Next (f : Nat → Int) (d : Dd) : Prop := (∀ e ∈ d.r, f (place e) = e.v) ∧ ∀ e ∈ d.w, f (place e) < e.v

theorem s23_wp {D : HV → List HV → M HV} {H : Heap} {Q : HV → Heap → Prop} {y : List HV} {f : Nat → Int} (hy : Board y f) {d : Dd} (hd : Ents H d.rs d.r ∧ Ents H d.ws d.w) (hr : OkR d.r 0) (hw : OkR d.w 1)
    (h : ∀ b : Bool, (b = true ↔ Next f d) → Q (.bool b) H) : wp (s23 D [.agg y, .agg d.cs]) Q H := by
  unfold s23
  refine wp_fin (wp_uA (wp_uA (wp_uL (wp_uL (wp_nl (wp_nl ?_))))))
  refine wp_blk ?_
  refine wp_range (σ := Unit) d.r.length (fun i _ => [I i]) (fun i _ H' => H' = H ∧ ∀ (j : Nat) (e : En), j < i → d.r[j]? = some e → f (place e) = e.v) () rfl ⟨rfl, fun j a hj => by omega⟩ ?_ ?_
  · rintro i _ H' hi ⟨rfl, hno⟩
    have hok := hr _ (List.getElem_mem hi)
    have hpl := place_lt hok
    have hok' := hok
    unfold okE at hok'
    refine wp_uI (wp_nl (wp_cond (fun _ => ?_) (fun hc => ?_)))
    · refine wp_ixN hd.1 (by omega) (hd.1.at hi) (fun _ _ => wp_uI (wp_uI (wp_uI (wp_nl ?_))))
      refine wp_gd (by simp; omega) (wp_gd (by simp; omega) (wp_gd (by simp; omega) (wp_gd (by simp; omega) ?_)))
      have hb := hy.2 _ hpl
      unfold place at hb
      unfold gx
      rw [hb]
      refine wp_asI (wp_cond (fun c => wp_ret (h false ⟨fun hh => (by cases hh), fun hh => ?_⟩)) (fun c => wp_ret ?_))
      · have := hh.1 _ (List.getElem_mem hi)
        unfold place at this
        rw [this] at c; simp at c
      · refine ⟨(), by rw [wr_succ hi hd.1.lt], rfl, fun j e hj hje => ?_⟩
        by_cases hji : j = i
        · subst hji; rw [List.getElem?_eq_getElem hi] at hje; cases hje
          unfold place; simpa using c
        · exact hno j e (by omega) hje
    · rw [hd.1.len] at hc; simp at hc; omega
  · rintro _ H' ⟨rfl, hno⟩
    refine wp_uI (wp_nl (wp_cond (fun hc => ?_) (fun _ => wp_ret ?_)))
    · rw [hd.1.len] at hc; simp at hc
    refine wp_nl ?_
    refine wp_blk ?_
    refine wp_range (σ := Unit) d.w.length (fun i _ => [I i]) (fun i _ H2 => H2 = H' ∧ ∀ (j : Nat) (e : En), j < i → d.w[j]? = some e → f (place e) < e.v) () rfl ⟨rfl, fun j a hj => by omega⟩ ?_ ?_
    · rintro i _ H2 hi ⟨rfl, hno2⟩
      have hok := hw _ (List.getElem_mem hi)
      have hpl := place_lt hok
      have hok' := hok
      unfold okE at hok'
      refine wp_uI (wp_nl (wp_cond (fun _ => ?_) (fun hc => ?_)))
      · refine wp_ixN hd.2 (by omega) (hd.2.at hi) (fun _ _ => wp_uI (wp_uI (wp_uI (wp_nl ?_))))
        refine wp_gd (by simp; omega) (wp_gd (by simp; omega) (wp_gd (by simp; omega) (wp_gd (by simp; omega) ?_)))
        have hb := hy.2 _ hpl
        unfold place at hb
        unfold gx
        rw [hb]
        refine wp_asI (wp_cond (fun c => wp_ret (h false ⟨fun hh => (by cases hh), fun hh => ?_⟩)) (fun c => wp_ret ?_))
        · have := hh.2 _ (List.getElem_mem hi)
          unfold place at this
          simp at c this; omega
        · refine ⟨(), by rw [wr_succ hi hd.2.lt], rfl, fun j e hj hje => ?_⟩
          by_cases hji : j = i
          · subst hji; rw [List.getElem?_eq_getElem hi] at hje; cases hje
            unfold place; simpa using c
          · exact hno2 j e (by omega) hje
      · rw [hd.2.len] at hc; simp at hc; omega
    · rintro _ H2 ⟨rfl, hno2⟩
      refine wp_uI (wp_nl (wp_cond (fun hc => ?_) (fun _ => wp_ret ?_)))
      · rw [hd.2.len] at hc; simp at hc
      · refine wp_nl (wp_ret (h true ⟨fun _ => ⟨fun e he => ?_, fun e he => ?_⟩, fun _ => rfl⟩))
        · obtain ⟨j, hj, rfl⟩ := List.getElem_of_mem he
          exact hno j _ hj (List.getElem?_eq_getElem hj)
        · obtain ⟨j, hj, rfl⟩ := List.getElem_of_mem he
          exact hno2 j _ hj (List.getElem?_eq_getElem hj)

theorem putN_all {y z : List HV} (h : y.length = 24) (hz : z.length = 24 := by rfl) : ((putN z 0 y).drop 0).take 24 = y := by
  unfold putN
  rw [List.take_zero, List.nil_append, Nat.zero_add, h, ← hz, List.drop_length, List.append_nil, List.drop_zero, hz, ← h, List.take_length]
theorem putN_length' {y z : List HV} (h : y.length = 24) (hz : z.length = 24 := by rfl) : (putN z 0 y).length = 24 := by
  unfold putN; simp [h, hz]
/-- the versions behind some writes, in order. -/
def after (f : Nat → Int) (l : List En) : Nat → Int := l.foldl (fun g e p => if p = place e then e.v else g p) f
theorem after_succ (f : Nat → Int) (l : List En) {i : Nat} (hi : i < l.length) : after f (l.take (i + 1)) = fun p => if p = place l[i] then (l[i]).v else after f (l.take i) p := by
  unfold after
  rw [List.take_succ_eq_append_getElem hi, List.foldl_append]
  rfl

theorem s25_wp {D : HV → List HV → M HV} {H : Heap} {Q : HV → Heap → Prop} {y : List HV} {f : Nat → Int} (hy : Board y f) {d : Dd} (hd : Ents H d.rs d.r ∧ Ents H d.ws d.w) (hw : OkR d.w 1)
    (h : ∀ y', Board y' (after f d.w) → Q (.agg y') H) : wp (s25 D [.agg y, .agg d.cs]) Q H := by
  unfold s25
  refine wp_fin (wp_uA (wp_uA (wp_uL (wp_uL (wp_nl (wp_nl ?_))))))
  refine wp_blk ?_
  refine wp_range (σ := List HV) d.w.length (fun i y => [I i, .agg y]) (fun i y H' => H' = H ∧ Board y (after f (d.w.take i))) y rfl ⟨rfl, by simpa [after] using hy⟩ ?_ ?_
  · rintro i y H' hi ⟨rfl, hb⟩
    have hok := hw _ (List.getElem_mem hi)
    have hpl := place_lt hok
    have hok' := hok
    unfold okE at hok'
    refine wp_uI (wp_uA (wp_nl (wp_cond (fun _ => ?_) (fun hc => ?_))))
    · refine wp_ixN hd.2 (by omega) (hd.2.at hi) (fun _ _ => wp_uI (wp_uI (wp_uI (wp_nl ?_))))
      refine wp_gd (by simp; omega) (wp_gd (by simp; omega) (wp_gd (by simp; omega) (wp_gd (by simp; omega) (wp_gd (by rw [hb.1]; unfold place at hpl; simpa using hpl) (wp_ret ?_)))))
      refine ⟨List.set y (place (d.w[i])) (I (d.w[i]).v), by rw [wr_succ hi hd.2.lt]; rfl, rfl, by simp [hb.1], fun p hp => ?_⟩
      rw [after_succ f d.w hi]
      simp only
      by_cases hpp : p = place d.w[i]
      · subst hpp; rw [List.getElem?_set_self (by rw [hb.1]; omega), if_pos rfl]
      · rw [List.getElem?_set_ne (Ne.symm hpp), if_neg hpp]; exact hb.2 p hp
    · rw [hd.2.len] at hc; simp at hc; omega
  · rintro y H' ⟨rfl, hb⟩
    refine wp_uI (wp_uA (wp_nl (wp_cond (fun hc => ?_) (fun _ => wp_ret ?_))))
    · rw [hd.2.len] at hc; simp at hc
    · rw [List.take_length] at hb
      refine wp_uA (wp_nl ?_)
      have e1 : (y.drop 0).take 24 = y := by rw [List.drop_zero, ← hb.1, List.take_length]
      unfold gxN
      refine wp_gd (by rw [hb.1]; rfl) ?_
      rw [e1]
      refine wp_gd (by rw [hb.1]; rfl) (wp_gd (by rw [hb.1]; rfl) (wp_gd ?_ (wp_ret ?_)))
      · rw [putN_length' hb.1]; rfl
      · rw [putN_all hb.1]; exact h y hb
end Go.Proofs.Ythlfemjbeihmbaa.HL
