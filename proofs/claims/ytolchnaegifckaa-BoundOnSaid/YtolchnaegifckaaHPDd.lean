/- What the document's Most and Total compute. Conditions: none (lemmas). -/
import Derived.Test.YtolchnaegifckaaHPDc
namespace Go.Proofs.Ytolchnaegifckaa.HP
open Go

/-- an array of numbers, kept whole. -/
def ArrF (n : Nat) (y : List HV) (f : Nat → Int) : Prop := y.length = n ∧ ∀ k, k < n → y[k]? = some (I (f k))
section
variable {n : Nat} {y : List HV} {f : Nat → Int} {α : Type} {Q : α → Heap → Prop} {H : Heap}
theorem wp_gxA (h : ArrF n y f) {e k : Nat} (he : e = k) (hk : k < n) {g : HV → M α} (hg : wp (g (I (f k))) Q H) : wp (gx y e g) Q H := by
  subst he
  unfold gx
  rw [h.2 _ hk]; exact hg
theorem ArrF.set (h : ArrF n y f) {e k : Nat} (he : e = k) (v : Int) : ArrF n (List.set y e (I v)) (fun q => if q = k then v else f q) := by
  subst he
  refine ⟨by simp [h.1], fun q hq => ?_⟩
  by_cases hqe : q = e
  · subst hqe; rw [List.getElem?_set_self (by rw [h.1]; exact hq)]; simp
  · rw [List.getElem?_set_ne (Ne.symm hqe), h.2 q hq]; simp [hqe]
theorem wp_gxAll (h : y.length = n) {g : List HV → M α} (hg : wp (g y) Q H) : wp (gxN y 0 n g) Q H := by
  have e1 : (y.drop 0).take n = y := by rw [List.drop_zero, ← h, List.take_length]
  unfold gxN
  refine wp_gd (by rw [h]; simp) ?_
  rw [e1]; exact hg
theorem putN_whole {y z : List HV} (h : z.length = y.length) : putN z 0 y = y := by
  unfold putN
  rw [List.take_zero, List.nil_append, Nat.zero_add, ← h, List.drop_length, List.append_nil]
end

theorem ref27_Most_wp {D : HV → List HV → M HV} {H : Heap} {Q : HV → Heap → Prop} {s : Sl} {p : List Ins} (hs : RProg H s p) (hc : CanB p)
    (h : ∀ y, ArrF 49 y (Bd p) → Q (.agg y) H) : wp (f_ref27_Most D [.sl s]) Q H := by
  unfold f_ref27_Most
  have hlen := hs.len
  have h48 := hc.len
  have hfw := hc.fwd
  repeat' (first | with_reducible refine wp_finF ?_ | with_reducible refine wp_uA ?_ | with_reducible refine wp_uI ?_ | with_reducible refine wp_uB ?_ | with_reducible refine wp_uL ?_ | with_reducible refine wp_uS ?_ | with_reducible refine wp_uP ?_ | with_reducible refine wp_uc ?_ | with_reducible refine wp_nl ?_ | with_reducible refine wp_asB ?_ | with_reducible refine wp_asI ?_ | with_reducible refine wp_asSl ?_ | with_reducible refine wp_asT ?_ | with_reducible refine wp_asA ?_ | with_reducible refine wp_asS ?_ | with_reducible refine wp_asP ?_ | with_reducible refine wp_nN ?_ | with_reducible refine wp_rN ?_ | with_reducible refine wp_xN ?_ | with_reducible refine wp_nB ?_ | with_reducible refine wp_rB ?_ | with_reducible refine wp_xB rfl ?_ | with_reducible refine wp_xB' rfl ?_ | with_reducible refine wp_bB ?_ | with_reducible refine wp_rX ?_ | with_reducible refine wp_xX ?_ | with_reducible refine wp_rE ?_ | with_reducible refine wp_xE ?_ | with_reducible refine wp_rR ?_ | with_reducible refine wp_xR ?_ | with_reducible refine wp_r0 ?_ | with_reducible refine wp_x0 ?_ | with_reducible refine wp_rF ?_ | with_reducible refine wp_rF0 ?_ | with_reducible refine wp_rF2 ?_ | with_reducible refine wp_rF3 ?_ | with_reducible refine wp_rF4 ?_ | with_reducible refine wp_condT ?_ | with_reducible refine wp_condF ?_ | with_reducible refine wp_condNT ?_ | with_reducible refine wp_condNF ?_)
  refine wp_for (σ := List HV) (p.length + 1) (by omega) (by rw [hlen, wr_small (by omega) (by omega)]; rfl) (fun y i => [I i, .agg y]) (fun _ _ => rfl) rfl
    (fun r y H' => H' = H ∧ ∃ f, ArrF 49 y f ∧ ∀ k, p.length ≤ k + r → k < 49 → f k = Bd p k) _ rfl ⟨rfl, fun _ => 0, ⟨rfl, fun k hk => ?_⟩, fun k hk _ => (Bd_end (by omega)).symm⟩ ?_ ?_
  · show (List.replicate 49 (I 0))[k]? = some (I 0)
    rw [List.getElem?_replicate, if_pos hk]
  · rintro r y H' hr ⟨rfl, f, hy, hfk⟩
    repeat' (first | with_reducible refine wp_finF ?_ | with_reducible refine wp_uA ?_ | with_reducible refine wp_uI ?_ | with_reducible refine wp_uB ?_ | with_reducible refine wp_uL ?_ | with_reducible refine wp_uS ?_ | with_reducible refine wp_uP ?_ | with_reducible refine wp_uc ?_ | with_reducible refine wp_nl ?_ | with_reducible refine wp_asB ?_ | with_reducible refine wp_asI ?_ | with_reducible refine wp_asSl ?_ | with_reducible refine wp_asT ?_ | with_reducible refine wp_asA ?_ | with_reducible refine wp_asS ?_ | with_reducible refine wp_asP ?_ | with_reducible refine wp_nN ?_ | with_reducible refine wp_rN ?_ | with_reducible refine wp_xN ?_ | with_reducible refine wp_nB ?_ | with_reducible refine wp_rB ?_ | with_reducible refine wp_xB rfl ?_ | with_reducible refine wp_xB' rfl ?_ | with_reducible refine wp_bB ?_ | with_reducible refine wp_rX ?_ | with_reducible refine wp_xX ?_ | with_reducible refine wp_rE ?_ | with_reducible refine wp_xE ?_ | with_reducible refine wp_rR ?_ | with_reducible refine wp_xR ?_ | with_reducible refine wp_r0 ?_ | with_reducible refine wp_x0 ?_ | with_reducible refine wp_rF ?_ | with_reducible refine wp_rF0 ?_ | with_reducible refine wp_rF2 ?_ | with_reducible refine wp_rF3 ?_ | with_reducible refine wp_rF4 ?_ | with_reducible refine wp_condT ?_ | with_reducible refine wp_condF ?_ | with_reducible refine wp_condNT ?_ | with_reducible refine wp_condNF ?_)
    refine wp_for (σ := List HV) p.length hs.lt hs.lenI (fun y i => [I i, .agg y]) (fun _ _ => rfl) rfl
      (fun i y H2 => H2 = H' ∧ ∃ f, ArrF 49 y f ∧ (∀ k, p.length ≤ k + r → k < 49 → f k = Bd p k) ∧ ∀ k, k < i → p.length ≤ k + r + 1 → f k = Bd p k) y rfl ⟨rfl, f, hy, hfk, fun k hk _ => by omega⟩ ?_ ?_
    · rintro i y H2 hi ⟨rfl, f, hy, hfk, hfi⟩
      have hyl := hy.1
      have hfa := hfw i hi
      have hB := Bd_eq hfw hi
      have hb1 := Bd_nonneg hc (i + 1)
      have hb2 := Bd_small hc (i + 1)
      have hb3 := Bd_nonneg hc (p[i]).a.toNat
      have hb4 := Bd_small hc (p[i]).a.toNat
      have hf1 : p.length ≤ i + r + 1 → f (i + 1) = Bd p (i + 1) := fun hh => hfk _ (by omega) (by omega)
      have hf2 : (p[i]).op = 3 ∨ (p[i]).op = 20 → p.length ≤ i + r + 1 → f (p[i]).a.toNat = Bd p (p[i]).a.toNat := fun ho hh => by
        have := hfa ho
        exact hfk _ (by omega) (by omega)
      have hcc : (p[i]).op = 3 → 0 ≤ (p[i]).c ∧ (p[i]).c ≤ 2 := fun ho => by
        obtain ⟨⟨l, hl, hin⟩, _⟩ := (hc.one i hi).fits
        rw [ho] at hl
        simp [lims] at hl
        subst hl
        simp [inside] at hin
        omega
      have hw1 : wr ((i : Int) + 1) = ((i + 1 : Nat) : Int) := by rw [wr_small (by omega) (by omega)]; rfl
      have hwr := wrs
      have fin_ : ∀ (e : Nat) (v : Int), e = i → (p.length ≤ i + r + 1 → v = Bd p i) → ∃ f', ArrF 49 (List.set y e (I v)) f' ∧ (∀ k, p.length ≤ k + r → k < 49 → f' k = Bd p k) ∧ ∀ k, k < i + 1 → p.length ≤ k + r + 1 → f' k = Bd p k := by
        intro e v he hv
        refine ⟨_, hy.set he v, fun k h1 h2 => ?_, fun k h1 h2 => ?_⟩
        · by_cases hk : k = i
          · subst hk; rw [if_pos rfl]; exact hv (by omega)
          · rw [if_neg hk]; exact hfk k h1 h2
        · by_cases hk : k = i
          · subst hk; rw [if_pos rfl]; exact hv h2
          · rw [if_neg hk]; exact hfi k (by omega) h2
      refine wp_blk (wp_at hs hi fun _ _ => ?_)
      repeat' (first | with_reducible refine wp_finF ?_ | with_reducible refine wp_uA ?_ | with_reducible refine wp_uI ?_ | with_reducible refine wp_uB ?_ | with_reducible refine wp_uL ?_ | with_reducible refine wp_uS ?_ | with_reducible refine wp_uP ?_ | with_reducible refine wp_uc ?_ | with_reducible refine wp_nl ?_ | with_reducible refine wp_asB ?_ | with_reducible refine wp_asI ?_ | with_reducible refine wp_asSl ?_ | with_reducible refine wp_asT ?_ | with_reducible refine wp_asA ?_ | with_reducible refine wp_asS ?_ | with_reducible refine wp_asP ?_ | with_reducible refine wp_nN ?_ | with_reducible refine wp_rN ?_ | with_reducible refine wp_xN ?_ | with_reducible refine wp_nB ?_ | with_reducible refine wp_rB ?_ | with_reducible refine wp_xB rfl ?_ | with_reducible refine wp_xB' rfl ?_ | with_reducible refine wp_bB ?_ | with_reducible refine wp_rX ?_ | with_reducible refine wp_xX ?_ | with_reducible refine wp_rE ?_ | with_reducible refine wp_xE ?_ | with_reducible refine wp_rR ?_ | with_reducible refine wp_xR ?_ | with_reducible refine wp_r0 ?_ | with_reducible refine wp_x0 ?_ | with_reducible refine wp_rF ?_ | with_reducible refine wp_rF0 ?_ | with_reducible refine wp_rF2 ?_ | with_reducible refine wp_rF3 ?_ | with_reducible refine wp_rF4 ?_ | with_reducible refine wp_condT ?_ | with_reducible refine wp_condF ?_ | with_reducible refine wp_condNT ?_ | with_reducible refine wp_condNF ?_)
      rw [hw1]
      repeat' (first | with_reducible refine wp_finF ?_ | with_reducible refine wp_uA ?_ | with_reducible refine wp_uI ?_ | with_reducible refine wp_uB ?_ | with_reducible refine wp_uL ?_ | with_reducible refine wp_uS ?_ | with_reducible refine wp_uP ?_ | with_reducible refine wp_uc ?_ | with_reducible refine wp_nl ?_ | with_reducible refine wp_asB ?_ | with_reducible refine wp_asI ?_ | with_reducible refine wp_asSl ?_ | with_reducible refine wp_asT ?_ | with_reducible refine wp_asA ?_ | with_reducible refine wp_asS ?_ | with_reducible refine wp_asP ?_ | with_reducible refine wp_jn ?_ | with_reducible refine wp_nN ?_ | with_reducible refine wp_rN ?_ | with_reducible refine wp_xN ?_ | with_reducible refine wp_nB ?_ | with_reducible refine wp_rB ?_ | with_reducible refine wp_xB rfl ?_ | with_reducible refine wp_xB' rfl ?_ | with_reducible refine wp_bB ?_ | with_reducible refine wp_rX ?_ | with_reducible refine wp_xX ?_ | with_reducible refine wp_rE ?_ | with_reducible refine wp_xE ?_ | with_reducible refine wp_rR ?_ | with_reducible refine wp_xR ?_ | with_reducible refine wp_r0 ?_ | with_reducible refine wp_x0 ?_ | with_reducible refine wp_rF ?_ | with_reducible refine wp_rF0 ?_ | with_reducible refine wp_rF2 ?_ | with_reducible refine wp_rF3 ?_ | with_reducible refine wp_rF4 ?_ | with_reducible refine wp_condT ?_ | with_reducible refine wp_condF ?_ | with_reducible refine wp_condNT ?_ | with_reducible refine wp_condNF ?_ | with_reducible refine wp_condD (fun _ => ?_) (fun _ => ?_) | with_reducible refine wp_condE (fun _ => ?_) (fun _ => ?_) | with_reducible refine wp_condNE (fun _ => ?_) (fun _ => ?_) | with_reducible refine wp_condN (fun _ => ?_) (fun _ => ?_) | with_reducible refine wp_cond (fun _ => ?_) (fun _ => ?_) | with_reducible refine wp_gdD (by omega) ?_ | with_reducible refine wp_gxA hy (k := i + 1) (by omega) (by omega) ?_ | with_reducible refine wp_gxA hy (k := (p[i]).a.toNat) (by omega) (by omega) ?_)
      all_goals
        refine wp_nR ⟨_, by rw [← hw1], rfl, fin_ _ _ (by omega) fun hh => ?_⟩
        have hf1 := hf1 hh
        rw [hB]
        clear h fin_ hs hc hy hfk hfi hfw hw1
        unfold oneB imax
        grind
    · rintro y H2 ⟨rfl, f, hy, hfk, hfi⟩
      repeat' (first | with_reducible refine wp_finF ?_ | with_reducible refine wp_uA ?_ | with_reducible refine wp_uI ?_ | with_reducible refine wp_uB ?_ | with_reducible refine wp_uL ?_ | with_reducible refine wp_uS ?_ | with_reducible refine wp_uP ?_ | with_reducible refine wp_uc ?_ | with_reducible refine wp_nl ?_ | with_reducible refine wp_asB ?_ | with_reducible refine wp_asI ?_ | with_reducible refine wp_asSl ?_ | with_reducible refine wp_asT ?_ | with_reducible refine wp_asA ?_ | with_reducible refine wp_asS ?_ | with_reducible refine wp_asP ?_ | with_reducible refine wp_nN ?_ | with_reducible refine wp_rN ?_ | with_reducible refine wp_xN ?_ | with_reducible refine wp_nB ?_ | with_reducible refine wp_rB ?_ | with_reducible refine wp_xB rfl ?_ | with_reducible refine wp_xB' rfl ?_ | with_reducible refine wp_bB ?_ | with_reducible refine wp_rX ?_ | with_reducible refine wp_xX ?_ | with_reducible refine wp_rE ?_ | with_reducible refine wp_xE ?_ | with_reducible refine wp_rR ?_ | with_reducible refine wp_xR ?_ | with_reducible refine wp_r0 ?_ | with_reducible refine wp_x0 ?_ | with_reducible refine wp_rF ?_ | with_reducible refine wp_rF0 ?_ | with_reducible refine wp_rF2 ?_ | with_reducible refine wp_rF3 ?_ | with_reducible refine wp_rF4 ?_ | with_reducible refine wp_condT ?_ | with_reducible refine wp_condF ?_ | with_reducible refine wp_condNT ?_ | with_reducible refine wp_condNF ?_)
      refine wp_nR ⟨y, rfl, rfl, f, hy, fun k h1 h2 => ?_⟩
      by_cases hk : k < p.length
      · exact hfi k hk (by omega)
      · exact hfk k (by omega) h2
  · rintro y H' ⟨rfl, f, hy, hfk⟩
    repeat' (first | with_reducible refine wp_finF ?_ | with_reducible refine wp_uA ?_ | with_reducible refine wp_uI ?_ | with_reducible refine wp_uB ?_ | with_reducible refine wp_uL ?_ | with_reducible refine wp_uS ?_ | with_reducible refine wp_uP ?_ | with_reducible refine wp_uc ?_ | with_reducible refine wp_nl ?_ | with_reducible refine wp_asB ?_ | with_reducible refine wp_asI ?_ | with_reducible refine wp_asSl ?_ | with_reducible refine wp_asT ?_ | with_reducible refine wp_asA ?_ | with_reducible refine wp_asS ?_ | with_reducible refine wp_asP ?_ | with_reducible refine wp_nN ?_ | with_reducible refine wp_rN ?_ | with_reducible refine wp_xN ?_ | with_reducible refine wp_nB ?_ | with_reducible refine wp_rB ?_ | with_reducible refine wp_xB rfl ?_ | with_reducible refine wp_xB' rfl ?_ | with_reducible refine wp_bB ?_ | with_reducible refine wp_rX ?_ | with_reducible refine wp_xX ?_ | with_reducible refine wp_rE ?_ | with_reducible refine wp_xE ?_ | with_reducible refine wp_rR ?_ | with_reducible refine wp_xR ?_ | with_reducible refine wp_r0 ?_ | with_reducible refine wp_x0 ?_ | with_reducible refine wp_rF ?_ | with_reducible refine wp_rF0 ?_ | with_reducible refine wp_rF2 ?_ | with_reducible refine wp_rF3 ?_ | with_reducible refine wp_rF4 ?_ | with_reducible refine wp_condT ?_ | with_reducible refine wp_condF ?_ | with_reducible refine wp_condNT ?_ | with_reducible refine wp_condNF ?_)
    refine wp_gxAll hy.1 (wp_gd (by rw [hy.1]; rfl) (wp_gd (by rw [hy.1]; rfl) ?_))
    rw [putN_whole (by rw [hy.1]; rfl)]
    refine wp_gxAll hy.1 ?_
    repeat' (first | with_reducible refine wp_finF ?_ | with_reducible refine wp_uA ?_ | with_reducible refine wp_uI ?_ | with_reducible refine wp_uB ?_ | with_reducible refine wp_uL ?_ | with_reducible refine wp_uS ?_ | with_reducible refine wp_uP ?_ | with_reducible refine wp_uc ?_ | with_reducible refine wp_nl ?_ | with_reducible refine wp_asB ?_ | with_reducible refine wp_asI ?_ | with_reducible refine wp_asSl ?_ | with_reducible refine wp_asT ?_ | with_reducible refine wp_asA ?_ | with_reducible refine wp_asS ?_ | with_reducible refine wp_asP ?_ | with_reducible refine wp_nN ?_ | with_reducible refine wp_rN ?_ | with_reducible refine wp_xN ?_ | with_reducible refine wp_nB ?_ | with_reducible refine wp_rB ?_ | with_reducible refine wp_xB rfl ?_ | with_reducible refine wp_xB' rfl ?_ | with_reducible refine wp_bB ?_ | with_reducible refine wp_rX ?_ | with_reducible refine wp_xX ?_ | with_reducible refine wp_rE ?_ | with_reducible refine wp_xE ?_ | with_reducible refine wp_rR ?_ | with_reducible refine wp_xR ?_ | with_reducible refine wp_r0 ?_ | with_reducible refine wp_x0 ?_ | with_reducible refine wp_rF ?_ | with_reducible refine wp_rF0 ?_ | with_reducible refine wp_rF2 ?_ | with_reducible refine wp_rF3 ?_ | with_reducible refine wp_rF4 ?_ | with_reducible refine wp_condT ?_ | with_reducible refine wp_condF ?_ | with_reducible refine wp_condNT ?_ | with_reducible refine wp_condNF ?_)
    refine h y ⟨hy.1, fun k hk => ?_⟩
    rw [hy.2 k hk, hfk k (by omega) hk]

theorem ref27_Total_wp {D : HV → List HV → M HV} {H : Heap} {Q : HV → Heap → Prop} {s : Sl} {p : List Ins} (hs : RProg H s p) (hc : CanB p)
    (h : Q (I (totB p p.length)) H) : wp (f_ref27_Total D [.sl s]) Q H := by
  unfold f_ref27_Total
  have h48 := hc.len
  repeat' (first | with_reducible refine wp_finF ?_ | with_reducible refine wp_uA ?_ | with_reducible refine wp_uI ?_ | with_reducible refine wp_uB ?_ | with_reducible refine wp_uL ?_ | with_reducible refine wp_uS ?_ | with_reducible refine wp_uP ?_ | with_reducible refine wp_uc ?_ | with_reducible refine wp_nl ?_ | with_reducible refine wp_asB ?_ | with_reducible refine wp_asI ?_ | with_reducible refine wp_asSl ?_ | with_reducible refine wp_asT ?_ | with_reducible refine wp_asA ?_ | with_reducible refine wp_asS ?_ | with_reducible refine wp_asP ?_ | with_reducible refine wp_nN ?_ | with_reducible refine wp_rN ?_ | with_reducible refine wp_xN ?_ | with_reducible refine wp_nB ?_ | with_reducible refine wp_rB ?_ | with_reducible refine wp_xB rfl ?_ | with_reducible refine wp_xB' rfl ?_ | with_reducible refine wp_bB ?_ | with_reducible refine wp_rX ?_ | with_reducible refine wp_xX ?_ | with_reducible refine wp_rE ?_ | with_reducible refine wp_xE ?_ | with_reducible refine wp_rR ?_ | with_reducible refine wp_xR ?_ | with_reducible refine wp_r0 ?_ | with_reducible refine wp_x0 ?_ | with_reducible refine wp_rF ?_ | with_reducible refine wp_rF0 ?_ | with_reducible refine wp_rF2 ?_ | with_reducible refine wp_rF3 ?_ | with_reducible refine wp_rF4 ?_ | with_reducible refine wp_condT ?_ | with_reducible refine wp_condF ?_ | with_reducible refine wp_condNT ?_ | with_reducible refine wp_condNF ?_)
  refine wp_bnd (ref27_Most_wp hs hc fun y hy => ?_)
  repeat' (first | with_reducible refine wp_finF ?_ | with_reducible refine wp_uA ?_ | with_reducible refine wp_uI ?_ | with_reducible refine wp_uB ?_ | with_reducible refine wp_uL ?_ | with_reducible refine wp_uS ?_ | with_reducible refine wp_uP ?_ | with_reducible refine wp_uc ?_ | with_reducible refine wp_nl ?_ | with_reducible refine wp_asB ?_ | with_reducible refine wp_asI ?_ | with_reducible refine wp_asSl ?_ | with_reducible refine wp_asT ?_ | with_reducible refine wp_asA ?_ | with_reducible refine wp_asS ?_ | with_reducible refine wp_asP ?_ | with_reducible refine wp_nN ?_ | with_reducible refine wp_rN ?_ | with_reducible refine wp_xN ?_ | with_reducible refine wp_nB ?_ | with_reducible refine wp_rB ?_ | with_reducible refine wp_xB rfl ?_ | with_reducible refine wp_xB' rfl ?_ | with_reducible refine wp_bB ?_ | with_reducible refine wp_rX ?_ | with_reducible refine wp_xX ?_ | with_reducible refine wp_rE ?_ | with_reducible refine wp_xE ?_ | with_reducible refine wp_rR ?_ | with_reducible refine wp_xR ?_ | with_reducible refine wp_r0 ?_ | with_reducible refine wp_x0 ?_ | with_reducible refine wp_rF ?_ | with_reducible refine wp_rF0 ?_ | with_reducible refine wp_rF2 ?_ | with_reducible refine wp_rF3 ?_ | with_reducible refine wp_rF4 ?_ | with_reducible refine wp_condT ?_ | with_reducible refine wp_condF ?_ | with_reducible refine wp_condNT ?_ | with_reducible refine wp_condNF ?_)
  refine wp_gd (by rw [hy.1]; rfl) (wp_gd (by rw [hy.1]; rfl) ?_)
  rw [putN_whole (by rw [hy.1]; rfl)]
  refine wp_for (σ := Int) p.length hs.lt hs.lenI (fun x i => [I x, I i]) (fun _ _ => rfl) rfl (fun i x H' => H' = H ∧ x = totB p i) 1 rfl ⟨rfl, by simp [totB]⟩ ?_ ?_
  · rintro i _ H' hi ⟨rfl, rfl⟩
    have hT := totB_le hc i
    have hB1 := Bd_nonneg hc i
    have hB2 := Bd_small hc i
    have hsT := totB_succ hi
    have hwr := wrs
    refine wp_blk (wp_at hs hi fun _ _ => ?_)
    repeat' (first | with_reducible refine wp_finF ?_ | with_reducible refine wp_uA ?_ | with_reducible refine wp_uI ?_ | with_reducible refine wp_uB ?_ | with_reducible refine wp_uL ?_ | with_reducible refine wp_uS ?_ | with_reducible refine wp_uP ?_ | with_reducible refine wp_uc ?_ | with_reducible refine wp_nl ?_ | with_reducible refine wp_asB ?_ | with_reducible refine wp_asI ?_ | with_reducible refine wp_asSl ?_ | with_reducible refine wp_asT ?_ | with_reducible refine wp_asA ?_ | with_reducible refine wp_asS ?_ | with_reducible refine wp_asP ?_ | with_reducible refine wp_jn ?_ | with_reducible refine wp_nN ?_ | with_reducible refine wp_rN ?_ | with_reducible refine wp_xN ?_ | with_reducible refine wp_nB ?_ | with_reducible refine wp_rB ?_ | with_reducible refine wp_xB rfl ?_ | with_reducible refine wp_xB' rfl ?_ | with_reducible refine wp_bB ?_ | with_reducible refine wp_rX ?_ | with_reducible refine wp_xX ?_ | with_reducible refine wp_rE ?_ | with_reducible refine wp_xE ?_ | with_reducible refine wp_rR ?_ | with_reducible refine wp_xR ?_ | with_reducible refine wp_r0 ?_ | with_reducible refine wp_x0 ?_ | with_reducible refine wp_rF ?_ | with_reducible refine wp_rF0 ?_ | with_reducible refine wp_rF2 ?_ | with_reducible refine wp_rF3 ?_ | with_reducible refine wp_rF4 ?_ | with_reducible refine wp_condT ?_ | with_reducible refine wp_condF ?_ | with_reducible refine wp_condNT ?_ | with_reducible refine wp_condNF ?_ | with_reducible refine wp_condD (fun _ => ?_) (fun _ => ?_) | with_reducible refine wp_condE (fun _ => ?_) (fun _ => ?_) | with_reducible refine wp_condNE (fun _ => ?_) (fun _ => ?_) | with_reducible refine wp_condN (fun _ => ?_) (fun _ => ?_) | with_reducible refine wp_cond (fun _ => ?_) (fun _ => ?_) | with_reducible refine wp_gdD (by omega) ?_ | with_reducible refine wp_gxA hy (k := i) (by omega) (by omega) ?_ | with_reducible refine wp_bnd (ref07_Block_wp hs (by omega) hi ?_))
    all_goals
      refine wp_nR ⟨totB p (i + 1), ?_, rfl, rfl⟩
      clear h hs hc hy
      congr 1
      congr 1
      grind
  · rintro _ H' ⟨rfl, rfl⟩
    repeat' (first | with_reducible refine wp_finF ?_ | with_reducible refine wp_uA ?_ | with_reducible refine wp_uI ?_ | with_reducible refine wp_uB ?_ | with_reducible refine wp_uL ?_ | with_reducible refine wp_uS ?_ | with_reducible refine wp_uP ?_ | with_reducible refine wp_uc ?_ | with_reducible refine wp_nl ?_ | with_reducible refine wp_asB ?_ | with_reducible refine wp_asI ?_ | with_reducible refine wp_asSl ?_ | with_reducible refine wp_asT ?_ | with_reducible refine wp_asA ?_ | with_reducible refine wp_asS ?_ | with_reducible refine wp_asP ?_ | with_reducible refine wp_nN ?_ | with_reducible refine wp_rN ?_ | with_reducible refine wp_xN ?_ | with_reducible refine wp_nB ?_ | with_reducible refine wp_rB ?_ | with_reducible refine wp_xB rfl ?_ | with_reducible refine wp_xB' rfl ?_ | with_reducible refine wp_bB ?_ | with_reducible refine wp_rX ?_ | with_reducible refine wp_xX ?_ | with_reducible refine wp_rE ?_ | with_reducible refine wp_xE ?_ | with_reducible refine wp_rR ?_ | with_reducible refine wp_xR ?_ | with_reducible refine wp_r0 ?_ | with_reducible refine wp_x0 ?_ | with_reducible refine wp_rF ?_ | with_reducible refine wp_rF0 ?_ | with_reducible refine wp_rF2 ?_ | with_reducible refine wp_rF3 ?_ | with_reducible refine wp_rF4 ?_ | with_reducible refine wp_condT ?_ | with_reducible refine wp_condF ?_ | with_reducible refine wp_condNT ?_ | with_reducible refine wp_condNF ?_)
    exact h
end Go.Proofs.Ytolchnaegifckaa.HP
