/- What code's functions compute: Check. Conditions: none (lemmas). -/
import Derived.Test.YtolchnaegifckaaHQCc
namespace Go.Proofs.Ytolchnaegifckaa.HQ
open Go

theorem fields_range {o a b c : Int} (h : fieldsP o a b c) : 0 ≤ o ∧ o ≤ 21 := by
  have key : o = 0 ∨ o = 1 ∨ o = 2 ∨ o = 3 ∨ o = 4 ∨ o = 5 ∨ o = 6 ∨ o = 7 ∨ o = 8 ∨ o = 9 ∨ o = 10 ∨ o = 11 ∨ o = 12 ∨ o = 13 ∨ o = 14 ∨ o = 15 ∨ o = 16 ∨ o = 17 ∨ o = 18 ∨ o = 19 ∨ o = 20 ∨ o = 21 ∨
      (o ≠ 0 ∧ o ≠ 1 ∧ o ≠ 2 ∧ o ≠ 3 ∧ o ≠ 4 ∧ o ≠ 5 ∧ o ≠ 6 ∧ o ≠ 7 ∧ o ≠ 8 ∧ o ≠ 9 ∧ o ≠ 10 ∧ o ≠ 11 ∧ o ≠ 12 ∧ o ≠ 13 ∧ o ≠ 14 ∧ o ≠ 15 ∧ o ≠ 16 ∧ o ≠ 17 ∧ o ≠ 18 ∧ o ≠ 19 ∧ o ≠ 20 ∧ o ≠ 21) := by omega
  rcases key with h1 | h1 | h1 | h1 | h1 | h1 | h1 | h1 | h1 | h1 | h1 | h1 | h1 | h1 | h1 | h1 | h1 | h1 | h1 | h1 | h1 | h1 | h1
  case inr.inr.inr.inr.inr.inr.inr.inr.inr.inr.inr.inr.inr.inr.inr.inr.inr.inr.inr.inr.inr.inr => simp [fieldsP, thingsP, h1] at h
  all_goals omega
theorem code_Check_wp {D : HV → List HV → M HV} {H : Heap} {Q : HV → Heap → Prop} {s : Sl} {p : List Ins} (hs : RProg H s p) (hf : ∀ x ∈ p, IFit x)
    (h0 : 48 < p.length → Q (.tup [I 0, I 3]) H) (h1 : CanC p → ∀ H', Keeps H H' → Q (.tup [I 0, I 0]) H')
    (h2 : p.length ≤ 48 → ¬ CanC p → ∀ (i : Int) H', Keeps H H' → Q (.tup [I i, I 11]) H') : wp (f_code_Check D [.sl s]) Q H := by
  unfold f_code_Check
  refine wp_finF (wp_uL (wp_nl (wp_condD (fun c => ?_) (fun c => ?_))))
  · refine wp_rF2 (h0 ?_)
    rw [hs.len] at c; omega
  have hn : p.length ≤ 48 := by rw [hs.len] at c; omega
  refine wp_bnd (code_spans_wp hs hn (fun b H1 hsh hb hk hnm => ?_) (fun x H1 hsh hk => ?_))
  case refine_2 =>
    with_reducible repeat' (first | refine wp_finF ?_ | refine wp_uA ?_ | refine wp_uI ?_ | refine wp_uB ?_ | refine wp_uL ?_ | refine wp_uS ?_ | refine wp_uP ?_ | refine wp_uc ?_ | refine wp_nl ?_ | refine wp_asB ?_ | refine wp_asI ?_ | refine wp_asSl ?_ | refine wp_asT ?_ | refine wp_asA ?_ | refine wp_asS ?_ | refine wp_asP ?_ | refine wp_jn ?_ | refine wp_nN ?_ | refine wp_rN ?_ | refine wp_xN ?_ | refine wp_nB ?_ | refine wp_rB ?_ | refine wp_xB rfl ?_ | refine wp_xB' rfl ?_ | refine wp_bB ?_ | refine wp_rX ?_ | refine wp_xX ?_ | refine wp_rE ?_ | refine wp_xE ?_ | refine wp_rR ?_ | refine wp_xR ?_ | refine wp_r0 ?_ | refine wp_x0 ?_ | refine wp_rF ?_ | refine wp_rF0 ?_ | refine wp_rF2 ?_ | refine wp_rF3 ?_ | refine wp_rF4 ?_ | refine wp_condT ?_ | refine wp_condF ?_ | refine wp_condNT ?_ | refine wp_condNF ?_ | refine wp_condD (fun _ => ?_) (fun _ => ?_) | refine wp_condE (fun _ => ?_) (fun _ => ?_) | refine wp_condNE (fun _ => ?_) (fun _ => ?_) | refine wp_condN (fun _ => ?_) (fun _ => ?_) | refine wp_cond (fun _ => ?_) (fun _ => ?_))
    exact h2 hn (fun hc => hsh hc.shaped) 0 H1 hk
  have ht : RInts H1 (numSl b p.length) ((List.range p.length).map (opn p)) := by
    have := hnm.ints
    simp only [List.length_map, List.length_range] at this
    exact this
  have hwl : ((List.range p.length).map (opn p)).length = p.length := by simp
  have hwg : ∀ k (hk : k < ((List.range p.length).map (opn p)).length), ((List.range p.length).map (opn p))[k] = opn p k := fun k hk => by simp
  have hwd : ∀ k : Nat, k < p.length → ((List.range p.length).map (opn p)).getD k 0 = opn p k := fun k hk => by
    rw [List.getD_eq_getElem?_getD, List.getElem?_eq_getElem (by simpa using hk), hwg]; rfl
  with_reducible repeat' (first | refine wp_finF ?_ | refine wp_uA ?_ | refine wp_uI ?_ | refine wp_uB ?_ | refine wp_uL ?_ | refine wp_uS ?_ | refine wp_uP ?_ | refine wp_uc ?_ | refine wp_nl ?_ | refine wp_asB ?_ | refine wp_asI ?_ | refine wp_asSl ?_ | refine wp_asT ?_ | refine wp_asA ?_ | refine wp_asS ?_ | refine wp_asP ?_ | refine wp_jn ?_ | refine wp_nN ?_ | refine wp_rN ?_ | refine wp_xN ?_ | refine wp_nB ?_ | refine wp_rB ?_ | refine wp_xB rfl ?_ | refine wp_xB' rfl ?_ | refine wp_bB ?_ | refine wp_rX ?_ | refine wp_xX ?_ | refine wp_rE ?_ | refine wp_xE ?_ | refine wp_rR ?_ | refine wp_xR ?_ | refine wp_r0 ?_ | refine wp_x0 ?_ | refine wp_rF ?_ | refine wp_rF0 ?_ | refine wp_rF2 ?_ | refine wp_rF3 ?_ | refine wp_rF4 ?_ | refine wp_condT ?_ | refine wp_condF ?_ | refine wp_condNT ?_ | refine wp_condNF ?_ | refine wp_condD (fun _ => ?_) (fun _ => ?_) | refine wp_condE (fun _ => ?_) (fun _ => ?_) | refine wp_condNE (fun _ => ?_) (fun _ => ?_) | refine wp_condN (fun _ => ?_) (fun _ => ?_) | refine wp_cond (fun _ => ?_) (fun _ => ?_))
  generalize hwdef : (List.range p.length).map (opn p) = w at *
  refine wp_for (σ := Bool × Int) p.length hs.lt hs.lenI (fun x i => [.bool x.1, I x.2, I i]) (fun _ _ => rfl) rfl (fun i x H' => H' = H1 ∧ x = (sureR p i, (waysR p i : Int)) ∧ waysR p i ≤ 3 ∧ ∀ j (hj : j < p.length), j < i → GoodI p j p[j]) (false, 0) rfl ⟨rfl, rfl, by simp [waysR], fun j _ h => by omega⟩ ?_ ?_
  · rintro i _ H2 hi ⟨rfl, rfl, hw3, hg⟩
    have hi' : i < w.length := by omega
    have hF := fits_iff p[i] (hf _ (List.getElem_mem hi))
    have hs' := hs.keeps hk
    have hwi : w[i] = opn p i := hwg i hi'
    have hwa : 0 ≤ (p[i]).a → (p[i]).a < p.length → w.getD (p[i]).a.toNat 0 = opn p (p[i]).a.toNat := fun q1 q2 => hwd _ (by omega)
    have hsu := sureR_succ hi
    have hwu := waysR_succ hi
    have hw1 : wr ((waysR p i : Int) + 1) = (waysR p i : Int) + 1 := wr_small (by omega) (by omega)
    have hw2 : wr (0 + 1 : Int) = 1 := rfl
    have hdup := hwd
    have hrg := fields_range (o := (p[i]).op) (a := (p[i]).a) (b := (p[i]).b) (c := (p[i]).c)
    refine wp_blk (wp_at hs' hi fun _ _ => ?_)
    simp only
    with_reducible repeat' (first | refine wp_finF ?_ | refine wp_uA ?_ | refine wp_uI ?_ | refine wp_uB ?_ | refine wp_uL ?_ | refine wp_uS ?_ | refine wp_uP ?_ | refine wp_uc ?_ | refine wp_nl ?_ | refine wp_asB ?_ | refine wp_asI ?_ | refine wp_asSl ?_ | refine wp_asT ?_ | refine wp_asA ?_ | refine wp_asS ?_ | refine wp_asP ?_ | refine wp_jn ?_ | refine wp_nN ?_ | refine wp_rN ?_ | refine wp_xN ?_ | refine wp_nB ?_ | refine wp_rB ?_ | refine wp_xB rfl ?_ | refine wp_xB' rfl ?_ | refine wp_bB ?_ | refine wp_rX ?_ | refine wp_xX ?_ | refine wp_rE ?_ | refine wp_xE ?_ | refine wp_rR ?_ | refine wp_xR ?_ | refine wp_r0 ?_ | refine wp_x0 ?_ | refine wp_rF ?_ | refine wp_rF0 ?_ | refine wp_rF2 ?_ | refine wp_rF3 ?_ | refine wp_rF4 ?_ | refine wp_condT ?_ | refine wp_condF ?_ | refine wp_condNT ?_ | refine wp_condNF ?_ | refine wp_condD (fun _ => ?_) (fun _ => ?_) | refine wp_condE (fun _ => ?_) (fun _ => ?_) | refine wp_condNE (fun _ => ?_) (fun _ => ?_) | refine wp_condN (fun _ => ?_) (fun _ => ?_) | refine wp_cond (fun _ => ?_) (fun _ => ?_) | refine wp_bnd (code_fields_wp fun _ _ => ?_) | refine wp_bnd (code_placed_wp fun _ _ => ?_) | refine wp_bnd (code_lands_wp hs' ht hwl hi fun _ _ => ?_) | refine wp_atI ht hi' fun _ _ => ?_ | refine wp_blk ?_)
    all_goals clear h1 h0 hs hs' ht hnm hdup hwd hwg hwdef hsh hb c hf
    all_goals first
      | (refine h2 hn (fun hc => ?_) i _ hk
         have hgi := hc.good i hi
         clear h2
         unfold GoodI at hgi
         rw [hF] at hgi
         grind)
      | (clear h2
         try rw [hw1]
         try rw [hw2]
         refine wp_nR ⟨(_, _), rfl, rfl, Prod.ext ?_ ?_, ?_, fun j hj hji => ?_⟩
         · simp only
           grind
         · simp only
           grind
         · grind
         · by_cases hjj : j = i
           · subst hjj
             unfold GoodI
             rw [hF]
             grind
           · exact hg j hj (by omega))
  · rintro _ H2 ⟨rfl, rfl, hw3, hg⟩
    with_reducible repeat' (first | refine wp_finF ?_ | refine wp_uA ?_ | refine wp_uI ?_ | refine wp_uB ?_ | refine wp_uL ?_ | refine wp_uS ?_ | refine wp_uP ?_ | refine wp_uc ?_ | refine wp_nl ?_ | refine wp_asB ?_ | refine wp_asI ?_ | refine wp_asSl ?_ | refine wp_asT ?_ | refine wp_asA ?_ | refine wp_asS ?_ | refine wp_asP ?_ | refine wp_jn ?_ | refine wp_nN ?_ | refine wp_rN ?_ | refine wp_xN ?_ | refine wp_nB ?_ | refine wp_rB ?_ | refine wp_xB rfl ?_ | refine wp_xB' rfl ?_ | refine wp_bB ?_ | refine wp_rX ?_ | refine wp_xX ?_ | refine wp_rE ?_ | refine wp_xE ?_ | refine wp_rR ?_ | refine wp_xR ?_ | refine wp_r0 ?_ | refine wp_x0 ?_ | refine wp_rF ?_ | refine wp_rF0 ?_ | refine wp_rF2 ?_ | refine wp_rF3 ?_ | refine wp_rF4 ?_ | refine wp_condT ?_ | refine wp_condF ?_ | refine wp_condNT ?_ | refine wp_condNF ?_ | refine wp_condD (fun _ => ?_) (fun _ => ?_) | refine wp_condE (fun _ => ?_) (fun _ => ?_) | refine wp_condNE (fun _ => ?_) (fun _ => ?_) | refine wp_condN (fun _ => ?_) (fun _ => ?_) | refine wp_cond (fun _ => ?_) (fun _ => ?_))
    exact h1 ⟨hn, hsh, fun i hi => hg i hi hi⟩ _ hk
end Go.Proofs.Ytolchnaegifckaa.HQ
