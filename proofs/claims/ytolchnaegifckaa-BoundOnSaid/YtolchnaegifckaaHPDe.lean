/- The laws BoundNext, BoundMost, BoundSmall answer true. Conditions: memory is as what came in is. -/
import Derived.Test.YtolchnaegifckaaHPDd
namespace Go.Proofs.Ytolchnaegifckaa.HP
open Go

instance decThings (o a b c : Int) : Decidable (thingsP o a b c) := by unfold thingsP; infer_instance
instance decFields (o a b c : Int) : Decidable (fieldsP o a b c) := by unfold fieldsP; infer_instance
def rowb (p : List Ins) (i : Nat) (x : Ins) : Bool :=
  decide ((x.op = 4 → opn p i < 0) ∧ (x.op = 5 → 0 ≤ opn p i)) && decide (fieldsP x.op x.a x.b x.c) && decide ((x.op = 0 ∨ x.op = 4 → opn p i < 0) ∧ (4 < x.op → 0 ≤ opn p i)) &&
  decide (x.op = 3 ∨ x.op = 20 → (i : Int) < x.a ∧ x.a ≤ p.length ∧ (x.a = p.length → opn p i < 0) ∧ (x.a < p.length → opn p x.a.toNat = opn p i)) &&
  decide (¬ (x.op = 20 ∧ 3 ≤ waysR p i)) && decide (¬ (sureR p i = true ∧ (x.op = 14 ∨ x.op = 19 ∨ x.op = 20 ∨ x.op = 21)))
def canb (p : List Ins) : Bool := decide (p.length ≤ 48) && decide (opn p p.length < 0) && (List.range p.length).all fun i => match p[i]? with
  | none => true
  | some x => rowb p i x
theorem canB_of {p : List Ins} (hf : ∀ x ∈ p, IFit x) (h : canb p = true) : CanB p := by
  unfold canb at h
  simp only [Bool.and_eq_true, decide_eq_true_eq, List.all_eq_true, List.mem_range] at h
  obtain ⟨⟨h1, h2⟩, h3⟩ := h
  have row : ∀ i (hi : i < p.length), rowb p i p[i] = true := fun i hi => by
    have := h3 i hi
    rw [List.getElem?_eq_getElem hi] at this
    exact this
  refine canC_iff.1 ⟨h1, ⟨fun i hi => ?_, h2⟩, fun i hi => ?_⟩
  · have := row i hi
    unfold rowb at this
    simp only [Bool.and_eq_true, decide_eq_true_eq] at this
    exact this.1.1.1.1.1
  · have := row i hi
    unfold rowb at this
    simp only [Bool.and_eq_true, decide_eq_true_eq] at this
    obtain ⟨⟨⟨⟨⟨a, b⟩, c⟩, d⟩, e⟩, f⟩ := this
    exact ⟨(fits_iff _ (hf _ (List.getElem_mem hi))).2 b, c, d, e, f⟩
abbrev Yes : HV → Heap → Prop := fun v _ => v = .bool true

def pL : List Ins := [⟨4, 0, 0, 0⟩, ⟨20, 3, 0, 0⟩, ⟨19, 0, 0, 0⟩, ⟨5, 0, 0, 0⟩]
theorem pL_fit : ∀ x ∈ pL, IFit x := by
  intro x hx
  simp [pL] at hx
  rcases hx with rfl | rfl | rfl | rfl <;> exact ⟨by simp [loI, hiI], by simp [loI, hiI], by simp [loI, hiI], by simp [loI, hiI]⟩
theorem pL_can : CanB pL := canB_of pL_fit (by decide)
theorem law27_alive_wp {D : HV → List HV → M HV} {H : Heap} {Q : HV → Heap → Prop} (h : ∀ H', Keeps H H' → Q (.bool true) H') : wp (f_law27_alive D []) Q H := by
  unfold f_law27_alive
  repeat' (first | with_reducible refine wp_finF ?_ | with_reducible refine wp_uA ?_ | with_reducible refine wp_uI ?_ | with_reducible refine wp_uB ?_ | with_reducible refine wp_uL ?_ | with_reducible refine wp_uS ?_ | with_reducible refine wp_uP ?_ | with_reducible refine wp_uc ?_ | with_reducible refine wp_nl ?_ | with_reducible refine wp_asB ?_ | with_reducible refine wp_asI ?_ | with_reducible refine wp_asSl ?_ | with_reducible refine wp_asT ?_ | with_reducible refine wp_asA ?_ | with_reducible refine wp_asS ?_ | with_reducible refine wp_asP ?_ | with_reducible refine wp_nN ?_ | with_reducible refine wp_rN ?_ | with_reducible refine wp_xN ?_ | with_reducible refine wp_nB ?_ | with_reducible refine wp_rB ?_ | with_reducible refine wp_xB rfl ?_ | with_reducible refine wp_xB' rfl ?_ | with_reducible refine wp_bB ?_ | with_reducible refine wp_rX ?_ | with_reducible refine wp_xX ?_ | with_reducible refine wp_rE ?_ | with_reducible refine wp_xE ?_ | with_reducible refine wp_rR ?_ | with_reducible refine wp_xR ?_ | with_reducible refine wp_r0 ?_ | with_reducible refine wp_x0 ?_ | with_reducible refine wp_rF ?_ | with_reducible refine wp_rF0 ?_ | with_reducible refine wp_rF2 ?_ | with_reducible refine wp_rF3 ?_ | with_reducible refine wp_rF4 ?_ | with_reducible refine wp_condT ?_ | with_reducible refine wp_condF ?_ | with_reducible refine wp_condNT ?_ | with_reducible refine wp_condNF ?_)
  refine wp_nw ?_
  have hs : RProg (H.push (.cells [I 4, I 0, I 0, I 0, I 20, I 3, I 0, I 0, I 19, I 0, I 0, I 0, I 5, I 0, I 0, I 0] false)) ⟨some (H.n, 0), 4, 4, none⟩ pL := slr_push _ rfl rfl (by simp [pL]) (by simp [pL])
  refine wp_bnd (bound_Most_wp hs pL_fit (fun _ b H1 hk _ hnm => ?_) (fun hh => absurd pL_can hh))
  have ht : RInts H1 (numSl b (pL.length + 1)) [4, 3, 1, 1, 0] := hnm.rints
  have hk2 := (Keeps.push H _).trans hk
  have e0 : (0 : Int) = ((0 : Nat) : Int) := rfl
  repeat' (first | with_reducible refine wp_finF ?_ | with_reducible refine wp_uA ?_ | with_reducible refine wp_uI ?_ | with_reducible refine wp_uB ?_ | with_reducible refine wp_uL ?_ | with_reducible refine wp_uS ?_ | with_reducible refine wp_uP ?_ | with_reducible refine wp_uc ?_ | with_reducible refine wp_nl ?_ | with_reducible refine wp_asB ?_ | with_reducible refine wp_asI ?_ | with_reducible refine wp_asSl ?_ | with_reducible refine wp_asT ?_ | with_reducible refine wp_asA ?_ | with_reducible refine wp_asS ?_ | with_reducible refine wp_asP ?_ | with_reducible refine wp_jn ?_ | with_reducible refine wp_nN ?_ | with_reducible refine wp_rN ?_ | with_reducible refine wp_xN ?_ | with_reducible refine wp_nB ?_ | with_reducible refine wp_rB ?_ | with_reducible refine wp_xB rfl ?_ | with_reducible refine wp_xB' rfl ?_ | with_reducible refine wp_bB ?_ | with_reducible refine wp_rX ?_ | with_reducible refine wp_xX ?_ | with_reducible refine wp_rE ?_ | with_reducible refine wp_xE ?_ | with_reducible refine wp_rR ?_ | with_reducible refine wp_xR ?_ | with_reducible refine wp_r0 ?_ | with_reducible refine wp_x0 ?_ | with_reducible refine wp_rF ?_ | with_reducible refine wp_rF0 ?_ | with_reducible refine wp_rF2 ?_ | with_reducible refine wp_rF3 ?_ | with_reducible refine wp_rF4 ?_ | with_reducible refine wp_condT ?_ | with_reducible refine wp_condF ?_ | with_reducible refine wp_condNT ?_ | with_reducible refine wp_condNF ?_ | with_reducible refine wp_condD (fun _ => ?_) (fun _ => ?_) | with_reducible refine wp_condE (fun _ => ?_) (fun _ => ?_) | with_reducible refine wp_condNE (fun _ => ?_) (fun _ => ?_) | with_reducible refine wp_condN (fun _ => ?_) (fun _ => ?_) | with_reducible refine wp_cond (fun _ => ?_) (fun _ => ?_) | with_reducible refine wp_atI' ht (i := 0) (by omega) (by simp) fun _ _ => ?_ | with_reducible refine wp_atI' ht (i := 1) (by omega) (by simp) fun _ _ => ?_ | with_reducible refine wp_atI' ht (i := 2) (by omega) (by simp) fun _ _ => ?_ | with_reducible refine wp_atI' ht (i := 3) (by omega) (by simp) fun _ _ => ?_ | with_reducible refine wp_atI' ht (i := 4) (by omega) (by simp) fun _ _ => ?_)
  all_goals first
    | exact h _ hk2
    | (exfalso; rename_i hne; exact hne rfl)

theorem nextL_sorted (x : Ins) (i : Nat) : (nextL x i).Pairwise (· < ·) := by
  unfold nextL
  split
  · simp
  split
  · simp
  split
  · rename_i h; simp; omega
  · simp
theorem nextL_range {p : List Ins} (hc : CanB p) {i : Nat} (hi : i < p.length) {k : Int} (hk : k ∈ nextL p[i] i) : (i : Int) < k ∧ k ≤ p.length := by
  have hf := hc.fwd i hi
  unfold nextL at hk
  split at hk
  · cases hk
  split at hk
  · rename_i h
    simp at hk; have := hf (.inl h.1); omega
  split at hk
  · rename_i h
    have := hf h.1
    simp at hk; omega
  · simp at hk; omega
theorem c_range {p : List Ins} (hc : CanB p) {i : Nat} (hi : i < p.length) (ho : (p[i]).op = 3) : 0 ≤ (p[i]).c ∧ (p[i]).c ≤ 2 := by
  obtain ⟨⟨l, hl, hin⟩, _⟩ := (hc.one i hi).fits
  rw [ho] at hl
  simp [lims] at hl
  subst hl
  simp [inside] at hin
  omega
theorem Bd_next {p : List Ins} (hc : CanB p) {i : Nat} (hi : i < p.length) (h5 : (p[i]).op ≠ 5) {k : Int} (hk : k ∈ nextL p[i] i) : Bd p k.toNat < Bd p i := by
  have hB := Bd_eq hc.fwd hi
  have hcr := c_range hc hi
  have hf := hc.fwd i hi
  rw [mem_nextL hcr (fun ho => (hf ho).1)] at hk
  have b1 := Bd_nonneg hc (i + 1)
  have b2 := Bd_nonneg hc (p[i]).a.toNat
  rw [hB]
  unfold leads at hk
  unfold oneB imax
  split at hk
  · exact hk.elim
  rename_i h0
  rw [if_neg (by omega)]
  have e1 : ((i : Int) + 1).toNat = i + 1 := by omega
  split at hk
  · rename_i h3
    rw [if_neg (by omega), if_pos h3]
    rcases hk with rfl | ⟨hc2, rfl⟩
    · split
      · omega
      · split <;> omega
    · rw [e1, if_neg (by omega)]
      split <;> omega
  split at hk
  · rename_i h3 h20
    rw [if_pos h20]
    rcases hk with rfl | rfl
    · omega
    · rw [e1]; omega
  · rename_i h3 h20
    rw [if_neg h20, if_neg h3]
    subst hk
    rw [e1]; omega

theorem law27_BoundNext_wp {D : HV → List HV → M HV} {H : Heap} {s : Sl} {p : List Ins} (hs : RProg H s p) (hf : ∀ x ∈ p, IFit x) (at_ : Int) : wp (f_law27_BoundNext D [.sl s, I at_]) Yes H := by
  unfold f_law27_BoundNext
  repeat' (first | with_reducible refine wp_finF ?_ | with_reducible refine wp_uA ?_ | with_reducible refine wp_uI ?_ | with_reducible refine wp_uB ?_ | with_reducible refine wp_uL ?_ | with_reducible refine wp_uS ?_ | with_reducible refine wp_uP ?_ | with_reducible refine wp_uc ?_ | with_reducible refine wp_nl ?_ | with_reducible refine wp_asB ?_ | with_reducible refine wp_asI ?_ | with_reducible refine wp_asSl ?_ | with_reducible refine wp_asT ?_ | with_reducible refine wp_asA ?_ | with_reducible refine wp_asS ?_ | with_reducible refine wp_asP ?_ | with_reducible refine wp_nN ?_ | with_reducible refine wp_rN ?_ | with_reducible refine wp_xN ?_ | with_reducible refine wp_nB ?_ | with_reducible refine wp_rB ?_ | with_reducible refine wp_xB rfl ?_ | with_reducible refine wp_xB' rfl ?_ | with_reducible refine wp_bB ?_ | with_reducible refine wp_rX ?_ | with_reducible refine wp_xX ?_ | with_reducible refine wp_rE ?_ | with_reducible refine wp_xE ?_ | with_reducible refine wp_rR ?_ | with_reducible refine wp_xR ?_ | with_reducible refine wp_r0 ?_ | with_reducible refine wp_x0 ?_ | with_reducible refine wp_rF ?_ | with_reducible refine wp_rF0 ?_ | with_reducible refine wp_rF2 ?_ | with_reducible refine wp_rF3 ?_ | with_reducible refine wp_rF4 ?_ | with_reducible refine wp_condT ?_ | with_reducible refine wp_condF ?_ | with_reducible refine wp_condNT ?_ | with_reducible refine wp_condNF ?_)
  refine wp_bnd (law27_alive_wp fun H1 hk1 => ?_)
  have hs1 := hs.keeps hk1
  repeat' (first | with_reducible refine wp_finF ?_ | with_reducible refine wp_uA ?_ | with_reducible refine wp_uI ?_ | with_reducible refine wp_uB ?_ | with_reducible refine wp_uL ?_ | with_reducible refine wp_uS ?_ | with_reducible refine wp_uP ?_ | with_reducible refine wp_uc ?_ | with_reducible refine wp_nl ?_ | with_reducible refine wp_asB ?_ | with_reducible refine wp_asI ?_ | with_reducible refine wp_asSl ?_ | with_reducible refine wp_asT ?_ | with_reducible refine wp_asA ?_ | with_reducible refine wp_asS ?_ | with_reducible refine wp_asP ?_ | with_reducible refine wp_nN ?_ | with_reducible refine wp_rN ?_ | with_reducible refine wp_xN ?_ | with_reducible refine wp_nB ?_ | with_reducible refine wp_rB ?_ | with_reducible refine wp_xB rfl ?_ | with_reducible refine wp_xB' rfl ?_ | with_reducible refine wp_bB ?_ | with_reducible refine wp_rX ?_ | with_reducible refine wp_xX ?_ | with_reducible refine wp_rE ?_ | with_reducible refine wp_xE ?_ | with_reducible refine wp_rR ?_ | with_reducible refine wp_xR ?_ | with_reducible refine wp_r0 ?_ | with_reducible refine wp_x0 ?_ | with_reducible refine wp_rF ?_ | with_reducible refine wp_rF0 ?_ | with_reducible refine wp_rF2 ?_ | with_reducible refine wp_rF3 ?_ | with_reducible refine wp_rF4 ?_ | with_reducible refine wp_condT ?_ | with_reducible refine wp_condF ?_ | with_reducible refine wp_condNT ?_ | with_reducible refine wp_condNF ?_)
  have bad : ¬ (CanB p ∧ 0 ≤ at_ ∧ at_ < p.length) → ∀ {R : HV → Heap → Prop} {H2 : Heap}, Keeps H1 H2 → ∀ {K : List HV → M Leaf}, True := fun _ _ _ _ _ => trivial
  refine wp_bnd (bound_Next_wp hs1 hf (fun hc k hat hk s' H2 hk2 hr => ?_) (fun hn H2 hk2 => ?_))
  · subst hat
    have hs2 := hs1.keeps hk2
    have h48 := hc.len
    repeat' (first | with_reducible refine wp_finF ?_ | with_reducible refine wp_uA ?_ | with_reducible refine wp_uI ?_ | with_reducible refine wp_uB ?_ | with_reducible refine wp_uL ?_ | with_reducible refine wp_uS ?_ | with_reducible refine wp_uP ?_ | with_reducible refine wp_uc ?_ | with_reducible refine wp_nl ?_ | with_reducible refine wp_asB ?_ | with_reducible refine wp_asI ?_ | with_reducible refine wp_asSl ?_ | with_reducible refine wp_asT ?_ | with_reducible refine wp_asA ?_ | with_reducible refine wp_asS ?_ | with_reducible refine wp_asP ?_ | with_reducible refine wp_nN ?_ | with_reducible refine wp_rN ?_ | with_reducible refine wp_xN ?_ | with_reducible refine wp_nB ?_ | with_reducible refine wp_rB ?_ | with_reducible refine wp_xB rfl ?_ | with_reducible refine wp_xB' rfl ?_ | with_reducible refine wp_bB ?_ | with_reducible refine wp_rX ?_ | with_reducible refine wp_xX ?_ | with_reducible refine wp_rE ?_ | with_reducible refine wp_xE ?_ | with_reducible refine wp_rR ?_ | with_reducible refine wp_xR ?_ | with_reducible refine wp_r0 ?_ | with_reducible refine wp_x0 ?_ | with_reducible refine wp_rF ?_ | with_reducible refine wp_rF0 ?_ | with_reducible refine wp_rF2 ?_ | with_reducible refine wp_rF3 ?_ | with_reducible refine wp_rF4 ?_ | with_reducible refine wp_condT ?_ | with_reducible refine wp_condF ?_ | with_reducible refine wp_condNT ?_ | with_reducible refine wp_condNF ?_)
    refine wp_jnP False ?_ (fun hh => hh.elim) (fun _ => ?_)
    · refine wp_bnd (ref27_Can_wp hs2 fun z hz => ?_)
      obtain rfl := hz.2 hc
      have hl := hs.lenI
      repeat' (first | with_reducible refine wp_finF ?_ | with_reducible refine wp_uA ?_ | with_reducible refine wp_uI ?_ | with_reducible refine wp_uB ?_ | with_reducible refine wp_uL ?_ | with_reducible refine wp_uS ?_ | with_reducible refine wp_uP ?_ | with_reducible refine wp_uc ?_ | with_reducible refine wp_nl ?_ | with_reducible refine wp_asB ?_ | with_reducible refine wp_asI ?_ | with_reducible refine wp_asSl ?_ | with_reducible refine wp_asT ?_ | with_reducible refine wp_asA ?_ | with_reducible refine wp_asS ?_ | with_reducible refine wp_asP ?_ | with_reducible refine wp_jn ?_ | with_reducible refine wp_nN ?_ | with_reducible refine wp_rN ?_ | with_reducible refine wp_xN ?_ | with_reducible refine wp_nB ?_ | with_reducible refine wp_rB ?_ | with_reducible refine wp_xB rfl ?_ | with_reducible refine wp_xB' rfl ?_ | with_reducible refine wp_bB ?_ | with_reducible refine wp_rX ?_ | with_reducible refine wp_xX ?_ | with_reducible refine wp_rE ?_ | with_reducible refine wp_xE ?_ | with_reducible refine wp_rR ?_ | with_reducible refine wp_xR ?_ | with_reducible refine wp_r0 ?_ | with_reducible refine wp_x0 ?_ | with_reducible refine wp_rF ?_ | with_reducible refine wp_rF0 ?_ | with_reducible refine wp_rF2 ?_ | with_reducible refine wp_rF3 ?_ | with_reducible refine wp_rF4 ?_ | with_reducible refine wp_condT ?_ | with_reducible refine wp_condF ?_ | with_reducible refine wp_condNT ?_ | with_reducible refine wp_condNF ?_ | with_reducible refine wp_condD (fun _ => ?_) (fun _ => ?_) | with_reducible refine wp_condE (fun _ => ?_) (fun _ => ?_) | with_reducible refine wp_condNE (fun _ => ?_) (fun _ => ?_) | with_reducible refine wp_condN (fun _ => ?_) (fun _ => ?_) | with_reducible refine wp_cond (fun _ => ?_) (fun _ => ?_))
      all_goals first
        | (exfalso; omega)
        | (simp; omega)
    repeat' (first | with_reducible refine wp_finF ?_ | with_reducible refine wp_uA ?_ | with_reducible refine wp_uI ?_ | with_reducible refine wp_uB ?_ | with_reducible refine wp_uL ?_ | with_reducible refine wp_uS ?_ | with_reducible refine wp_uP ?_ | with_reducible refine wp_uc ?_ | with_reducible refine wp_nl ?_ | with_reducible refine wp_asB ?_ | with_reducible refine wp_asI ?_ | with_reducible refine wp_asSl ?_ | with_reducible refine wp_asT ?_ | with_reducible refine wp_asA ?_ | with_reducible refine wp_asS ?_ | with_reducible refine wp_asP ?_ | with_reducible refine wp_nN ?_ | with_reducible refine wp_rN ?_ | with_reducible refine wp_xN ?_ | with_reducible refine wp_nB ?_ | with_reducible refine wp_rB ?_ | with_reducible refine wp_xB rfl ?_ | with_reducible refine wp_xB' rfl ?_ | with_reducible refine wp_bB ?_ | with_reducible refine wp_rX ?_ | with_reducible refine wp_xX ?_ | with_reducible refine wp_rE ?_ | with_reducible refine wp_xE ?_ | with_reducible refine wp_rR ?_ | with_reducible refine wp_xR ?_ | with_reducible refine wp_r0 ?_ | with_reducible refine wp_x0 ?_ | with_reducible refine wp_rF ?_ | with_reducible refine wp_rF0 ?_ | with_reducible refine wp_rF2 ?_ | with_reducible refine wp_rF3 ?_ | with_reducible refine wp_rF4 ?_ | with_reducible refine wp_condT ?_ | with_reducible refine wp_condF ?_ | with_reducible refine wp_condNT ?_ | with_reducible refine wp_condNF ?_)
    have hso := nextL_sorted p[k] k
    have hra := fun {q : Int} (hq : q ∈ nextL p[k] k) => nextL_range hc hk hq
    have hme := fun (to : Int) => mem_nextL (to := to) (c_range hc hk) (fun ho => (hc.fwd k hk ho).1)
    generalize nextL p[k] k = L at *
    have hll := hr.lenI
    have hL := hr.lt
    refine wp_blk ?_
    refine wp_range (σ := Nat) (p.length + 1) (fun j c => [I c, I j]) (fun j c H' => H' = H2 ∧ c ≤ L.length ∧ (∀ x ∈ L.take c, x < (j : Int)) ∧ ∀ x ∈ L.drop c, (j : Int) ≤ x) 0 rfl ⟨rfl, by omega, by simp, fun x hx => by have := hra (List.mem_of_mem_drop hx); omega⟩ ?_ ?_
    · rintro j c H' hj ⟨rfl, hcl, htk, hdr⟩
      have hlen := hs.lenI
      repeat' (first | with_reducible refine wp_finF ?_ | with_reducible refine wp_uA ?_ | with_reducible refine wp_uI ?_ | with_reducible refine wp_uB ?_ | with_reducible refine wp_uL ?_ | with_reducible refine wp_uS ?_ | with_reducible refine wp_uP ?_ | with_reducible refine wp_uc ?_ | with_reducible refine wp_nl ?_ | with_reducible refine wp_asB ?_ | with_reducible refine wp_asI ?_ | with_reducible refine wp_asSl ?_ | with_reducible refine wp_asT ?_ | with_reducible refine wp_asA ?_ | with_reducible refine wp_asS ?_ | with_reducible refine wp_asP ?_ | with_reducible refine wp_nN ?_ | with_reducible refine wp_rN ?_ | with_reducible refine wp_xN ?_ | with_reducible refine wp_nB ?_ | with_reducible refine wp_rB ?_ | with_reducible refine wp_xB rfl ?_ | with_reducible refine wp_xB' rfl ?_ | with_reducible refine wp_bB ?_ | with_reducible refine wp_rX ?_ | with_reducible refine wp_xX ?_ | with_reducible refine wp_rE ?_ | with_reducible refine wp_xE ?_ | with_reducible refine wp_rR ?_ | with_reducible refine wp_xR ?_ | with_reducible refine wp_r0 ?_ | with_reducible refine wp_x0 ?_ | with_reducible refine wp_rF ?_ | with_reducible refine wp_rF0 ?_ | with_reducible refine wp_rF2 ?_ | with_reducible refine wp_rF3 ?_ | with_reducible refine wp_rF4 ?_ | with_reducible refine wp_condT ?_ | with_reducible refine wp_condF ?_ | with_reducible refine wp_condNT ?_ | with_reducible refine wp_condNF ?_)
      refine wp_condD (fun _ => ?_) (fun hh => by omega)
      refine wp_blk (wp_bnd (ref27_Leads_wp hs2 (by omega) hk fun z hz => ?_))
      have hz2 : z = true ↔ (j : Int) ∈ L := by rw [hz, hme]
      cases z
      · repeat' (first | with_reducible refine wp_finF ?_ | with_reducible refine wp_uA ?_ | with_reducible refine wp_uI ?_ | with_reducible refine wp_uB ?_ | with_reducible refine wp_uL ?_ | with_reducible refine wp_uS ?_ | with_reducible refine wp_uP ?_ | with_reducible refine wp_uc ?_ | with_reducible refine wp_nl ?_ | with_reducible refine wp_asB ?_ | with_reducible refine wp_asI ?_ | with_reducible refine wp_asSl ?_ | with_reducible refine wp_asT ?_ | with_reducible refine wp_asA ?_ | with_reducible refine wp_asS ?_ | with_reducible refine wp_asP ?_ | with_reducible refine wp_nN ?_ | with_reducible refine wp_rN ?_ | with_reducible refine wp_xN ?_ | with_reducible refine wp_nB ?_ | with_reducible refine wp_rB ?_ | with_reducible refine wp_xB rfl ?_ | with_reducible refine wp_xB' rfl ?_ | with_reducible refine wp_bB ?_ | with_reducible refine wp_rX ?_ | with_reducible refine wp_xX ?_ | with_reducible refine wp_rE ?_ | with_reducible refine wp_xE ?_ | with_reducible refine wp_rR ?_ | with_reducible refine wp_xR ?_ | with_reducible refine wp_r0 ?_ | with_reducible refine wp_x0 ?_ | with_reducible refine wp_rF ?_ | with_reducible refine wp_rF0 ?_ | with_reducible refine wp_rF2 ?_ | with_reducible refine wp_rF3 ?_ | with_reducible refine wp_rF4 ?_ | with_reducible refine wp_condT ?_ | with_reducible refine wp_condF ?_ | with_reducible refine wp_condNT ?_ | with_reducible refine wp_condNF ?_)
        refine wp_nX ⟨c, by rw [wr_small (by omega) (by omega)]; rfl, rfl, hcl, fun x hx => by have := htk x hx; omega, fun x hx => ?_⟩
        have h1 := hdr x hx
        have h2 : x ≠ (j : Int) := fun hh => by
          have := hz2.2 (hh ▸ List.mem_of_mem_drop hx)
          cases this
        omega
      · have hmem := hz2.1 rfl
        have hmd : (j : Int) ∈ L.drop c := by
          rw [← List.take_append_drop c L] at hmem
          rcases List.mem_append.1 hmem with h | h
          · have := htk _ h; omega
          · exact h
        have hcl2 : c < L.length := by
          rcases Nat.lt_or_ge c L.length with h | h
          · exact h
          · rw [List.drop_eq_nil_of_le h] at hmd; cases hmd
        have hdc : L.drop c = L[c] :: L.drop (c + 1) := List.drop_eq_getElem_cons hcl2
        have hpd : (L.drop c).Pairwise (· < ·) := hso.sublist (List.drop_sublist _ _)
        rw [hdc] at hmd hdr hpd
        rw [List.pairwise_cons] at hpd
        have hcj : L[c] = (j : Int) := by
          rcases List.mem_cons.1 hmd with h | h
          · exact h.symm
          · have h1 := hpd.1 _ h
            have h2 := hdr _ List.mem_cons_self
            omega
        repeat' (first | with_reducible refine wp_finF ?_ | with_reducible refine wp_uA ?_ | with_reducible refine wp_uI ?_ | with_reducible refine wp_uB ?_ | with_reducible refine wp_uL ?_ | with_reducible refine wp_uS ?_ | with_reducible refine wp_uP ?_ | with_reducible refine wp_uc ?_ | with_reducible refine wp_nl ?_ | with_reducible refine wp_asB ?_ | with_reducible refine wp_asI ?_ | with_reducible refine wp_asSl ?_ | with_reducible refine wp_asT ?_ | with_reducible refine wp_asA ?_ | with_reducible refine wp_asS ?_ | with_reducible refine wp_asP ?_ | with_reducible refine wp_nN ?_ | with_reducible refine wp_rN ?_ | with_reducible refine wp_xN ?_ | with_reducible refine wp_nB ?_ | with_reducible refine wp_rB ?_ | with_reducible refine wp_xB rfl ?_ | with_reducible refine wp_xB' rfl ?_ | with_reducible refine wp_bB ?_ | with_reducible refine wp_rX ?_ | with_reducible refine wp_xX ?_ | with_reducible refine wp_rE ?_ | with_reducible refine wp_xE ?_ | with_reducible refine wp_rR ?_ | with_reducible refine wp_xR ?_ | with_reducible refine wp_r0 ?_ | with_reducible refine wp_x0 ?_ | with_reducible refine wp_rF ?_ | with_reducible refine wp_rF0 ?_ | with_reducible refine wp_rF2 ?_ | with_reducible refine wp_rF3 ?_ | with_reducible refine wp_rF4 ?_ | with_reducible refine wp_condT ?_ | with_reducible refine wp_condF ?_ | with_reducible refine wp_condNT ?_ | with_reducible refine wp_condNF ?_)
        refine wp_jnP False ?_ (fun hh => hh.elim) (fun _ => ?_)
        · refine wp_condD (fun hh => by omega) (fun _ => ?_)
          refine wp_atI hr hcl2 fun _ _ => ?_
          repeat' (first | with_reducible refine wp_finF ?_ | with_reducible refine wp_uA ?_ | with_reducible refine wp_uI ?_ | with_reducible refine wp_uB ?_ | with_reducible refine wp_uL ?_ | with_reducible refine wp_uS ?_ | with_reducible refine wp_uP ?_ | with_reducible refine wp_uc ?_ | with_reducible refine wp_nl ?_ | with_reducible refine wp_asB ?_ | with_reducible refine wp_asI ?_ | with_reducible refine wp_asSl ?_ | with_reducible refine wp_asT ?_ | with_reducible refine wp_asA ?_ | with_reducible refine wp_asS ?_ | with_reducible refine wp_asP ?_ | with_reducible refine wp_nN ?_ | with_reducible refine wp_rN ?_ | with_reducible refine wp_xN ?_ | with_reducible refine wp_nB ?_ | with_reducible refine wp_rB ?_ | with_reducible refine wp_xB rfl ?_ | with_reducible refine wp_xB' rfl ?_ | with_reducible refine wp_bB ?_ | with_reducible refine wp_rX ?_ | with_reducible refine wp_xX ?_ | with_reducible refine wp_rE ?_ | with_reducible refine wp_xE ?_ | with_reducible refine wp_rR ?_ | with_reducible refine wp_xR ?_ | with_reducible refine wp_r0 ?_ | with_reducible refine wp_x0 ?_ | with_reducible refine wp_rF ?_ | with_reducible refine wp_rF0 ?_ | with_reducible refine wp_rF2 ?_ | with_reducible refine wp_rF3 ?_ | with_reducible refine wp_rF4 ?_ | with_reducible refine wp_condT ?_ | with_reducible refine wp_condF ?_ | with_reducible refine wp_condNT ?_ | with_reducible refine wp_condNF ?_)
          rw [hcj]; simp
        · repeat' (first | with_reducible refine wp_finF ?_ | with_reducible refine wp_uA ?_ | with_reducible refine wp_uI ?_ | with_reducible refine wp_uB ?_ | with_reducible refine wp_uL ?_ | with_reducible refine wp_uS ?_ | with_reducible refine wp_uP ?_ | with_reducible refine wp_uc ?_ | with_reducible refine wp_nl ?_ | with_reducible refine wp_asB ?_ | with_reducible refine wp_asI ?_ | with_reducible refine wp_asSl ?_ | with_reducible refine wp_asT ?_ | with_reducible refine wp_asA ?_ | with_reducible refine wp_asS ?_ | with_reducible refine wp_asP ?_ | with_reducible refine wp_nN ?_ | with_reducible refine wp_rN ?_ | with_reducible refine wp_xN ?_ | with_reducible refine wp_nB ?_ | with_reducible refine wp_rB ?_ | with_reducible refine wp_xB rfl ?_ | with_reducible refine wp_xB' rfl ?_ | with_reducible refine wp_bB ?_ | with_reducible refine wp_rX ?_ | with_reducible refine wp_xX ?_ | with_reducible refine wp_rE ?_ | with_reducible refine wp_xE ?_ | with_reducible refine wp_rR ?_ | with_reducible refine wp_xR ?_ | with_reducible refine wp_r0 ?_ | with_reducible refine wp_x0 ?_ | with_reducible refine wp_rF ?_ | with_reducible refine wp_rF0 ?_ | with_reducible refine wp_rF2 ?_ | with_reducible refine wp_rF3 ?_ | with_reducible refine wp_rF4 ?_ | with_reducible refine wp_condT ?_ | with_reducible refine wp_condF ?_ | with_reducible refine wp_condNT ?_ | with_reducible refine wp_condNF ?_)
          refine wp_nX ⟨c + 1, ?_, rfl, by omega, fun x hx => ?_, fun x hx => ?_⟩
          · rw [wr_small (by omega) (by omega), wr_small (by omega) (by omega)]; rfl
          · rw [List.take_succ_eq_append_getElem hcl2] at hx
            rcases List.mem_append.1 hx with h | h
            · have := htk x h; omega
            · simp at h; omega
          · have := hpd.1 x hx; omega
    · rintro c H' ⟨rfl, hcl, htk, hdr⟩
      have hlen := hs.lenI
      repeat' (first | with_reducible refine wp_finF ?_ | with_reducible refine wp_uA ?_ | with_reducible refine wp_uI ?_ | with_reducible refine wp_uB ?_ | with_reducible refine wp_uL ?_ | with_reducible refine wp_uS ?_ | with_reducible refine wp_uP ?_ | with_reducible refine wp_uc ?_ | with_reducible refine wp_nl ?_ | with_reducible refine wp_asB ?_ | with_reducible refine wp_asI ?_ | with_reducible refine wp_asSl ?_ | with_reducible refine wp_asT ?_ | with_reducible refine wp_asA ?_ | with_reducible refine wp_asS ?_ | with_reducible refine wp_asP ?_ | with_reducible refine wp_nN ?_ | with_reducible refine wp_rN ?_ | with_reducible refine wp_xN ?_ | with_reducible refine wp_nB ?_ | with_reducible refine wp_rB ?_ | with_reducible refine wp_xB rfl ?_ | with_reducible refine wp_xB' rfl ?_ | with_reducible refine wp_bB ?_ | with_reducible refine wp_rX ?_ | with_reducible refine wp_xX ?_ | with_reducible refine wp_rE ?_ | with_reducible refine wp_xE ?_ | with_reducible refine wp_rR ?_ | with_reducible refine wp_xR ?_ | with_reducible refine wp_r0 ?_ | with_reducible refine wp_x0 ?_ | with_reducible refine wp_rF ?_ | with_reducible refine wp_rF0 ?_ | with_reducible refine wp_rF2 ?_ | with_reducible refine wp_rF3 ?_ | with_reducible refine wp_rF4 ?_ | with_reducible refine wp_condT ?_ | with_reducible refine wp_condF ?_ | with_reducible refine wp_condNT ?_ | with_reducible refine wp_condNF ?_)
      refine wp_condD (fun hh => by omega) (fun _ => ?_)
      repeat' (first | with_reducible refine wp_finF ?_ | with_reducible refine wp_uA ?_ | with_reducible refine wp_uI ?_ | with_reducible refine wp_uB ?_ | with_reducible refine wp_uL ?_ | with_reducible refine wp_uS ?_ | with_reducible refine wp_uP ?_ | with_reducible refine wp_uc ?_ | with_reducible refine wp_nl ?_ | with_reducible refine wp_asB ?_ | with_reducible refine wp_asI ?_ | with_reducible refine wp_asSl ?_ | with_reducible refine wp_asT ?_ | with_reducible refine wp_asA ?_ | with_reducible refine wp_asS ?_ | with_reducible refine wp_asP ?_ | with_reducible refine wp_nN ?_ | with_reducible refine wp_rN ?_ | with_reducible refine wp_xN ?_ | with_reducible refine wp_nB ?_ | with_reducible refine wp_rB ?_ | with_reducible refine wp_xB rfl ?_ | with_reducible refine wp_xB' rfl ?_ | with_reducible refine wp_bB ?_ | with_reducible refine wp_rX ?_ | with_reducible refine wp_xX ?_ | with_reducible refine wp_rE ?_ | with_reducible refine wp_xE ?_ | with_reducible refine wp_rR ?_ | with_reducible refine wp_xR ?_ | with_reducible refine wp_r0 ?_ | with_reducible refine wp_x0 ?_ | with_reducible refine wp_rF ?_ | with_reducible refine wp_rF0 ?_ | with_reducible refine wp_rF2 ?_ | with_reducible refine wp_rF3 ?_ | with_reducible refine wp_rF4 ?_ | with_reducible refine wp_condT ?_ | with_reducible refine wp_condF ?_ | with_reducible refine wp_condNT ?_ | with_reducible refine wp_condNF ?_)
      have : c = L.length := by
        rcases Nat.lt_or_ge c L.length with h | h
        · have h1 := hdr L[c] (by rw [List.drop_eq_getElem_cons h]; exact List.mem_cons_self)
          have h2 := hra (List.getElem_mem h)
          omega
        · omega
      show HV.bool _ = _
      rw [this, hll]; simp
  · have hs2 := hs1.keeps hk2
    have hl := hs.lenI
    repeat' (first | with_reducible refine wp_finF ?_ | with_reducible refine wp_uA ?_ | with_reducible refine wp_uI ?_ | with_reducible refine wp_uB ?_ | with_reducible refine wp_uL ?_ | with_reducible refine wp_uS ?_ | with_reducible refine wp_uP ?_ | with_reducible refine wp_uc ?_ | with_reducible refine wp_nl ?_ | with_reducible refine wp_asB ?_ | with_reducible refine wp_asI ?_ | with_reducible refine wp_asSl ?_ | with_reducible refine wp_asT ?_ | with_reducible refine wp_asA ?_ | with_reducible refine wp_asS ?_ | with_reducible refine wp_asP ?_ | with_reducible refine wp_nN ?_ | with_reducible refine wp_rN ?_ | with_reducible refine wp_xN ?_ | with_reducible refine wp_nB ?_ | with_reducible refine wp_rB ?_ | with_reducible refine wp_xB rfl ?_ | with_reducible refine wp_xB' rfl ?_ | with_reducible refine wp_bB ?_ | with_reducible refine wp_rX ?_ | with_reducible refine wp_xX ?_ | with_reducible refine wp_rE ?_ | with_reducible refine wp_xE ?_ | with_reducible refine wp_rR ?_ | with_reducible refine wp_xR ?_ | with_reducible refine wp_r0 ?_ | with_reducible refine wp_x0 ?_ | with_reducible refine wp_rF ?_ | with_reducible refine wp_rF0 ?_ | with_reducible refine wp_rF2 ?_ | with_reducible refine wp_rF3 ?_ | with_reducible refine wp_rF4 ?_ | with_reducible refine wp_condT ?_ | with_reducible refine wp_condF ?_ | with_reducible refine wp_condNT ?_ | with_reducible refine wp_condNF ?_)
    refine wp_jnP True ?_ (fun _ => ?_) (fun hh => absurd trivial hh)
    · refine wp_bnd (ref27_Can_wp hs2 fun z hz => ?_)
      repeat' (first | with_reducible refine wp_finF ?_ | with_reducible refine wp_uA ?_ | with_reducible refine wp_uI ?_ | with_reducible refine wp_uB ?_ | with_reducible refine wp_uL ?_ | with_reducible refine wp_uS ?_ | with_reducible refine wp_uP ?_ | with_reducible refine wp_uc ?_ | with_reducible refine wp_nl ?_ | with_reducible refine wp_asB ?_ | with_reducible refine wp_asI ?_ | with_reducible refine wp_asSl ?_ | with_reducible refine wp_asT ?_ | with_reducible refine wp_asA ?_ | with_reducible refine wp_asS ?_ | with_reducible refine wp_asP ?_ | with_reducible refine wp_jn ?_ | with_reducible refine wp_nN ?_ | with_reducible refine wp_rN ?_ | with_reducible refine wp_xN ?_ | with_reducible refine wp_nB ?_ | with_reducible refine wp_rB ?_ | with_reducible refine wp_xB rfl ?_ | with_reducible refine wp_xB' rfl ?_ | with_reducible refine wp_bB ?_ | with_reducible refine wp_rX ?_ | with_reducible refine wp_xX ?_ | with_reducible refine wp_rE ?_ | with_reducible refine wp_xE ?_ | with_reducible refine wp_rR ?_ | with_reducible refine wp_xR ?_ | with_reducible refine wp_r0 ?_ | with_reducible refine wp_x0 ?_ | with_reducible refine wp_rF ?_ | with_reducible refine wp_rF0 ?_ | with_reducible refine wp_rF2 ?_ | with_reducible refine wp_rF3 ?_ | with_reducible refine wp_rF4 ?_ | with_reducible refine wp_condT ?_ | with_reducible refine wp_condF ?_ | with_reducible refine wp_condNT ?_ | with_reducible refine wp_condNF ?_ | with_reducible refine wp_condD (fun _ => ?_) (fun _ => ?_) | with_reducible refine wp_condE (fun _ => ?_) (fun _ => ?_) | with_reducible refine wp_condNE (fun _ => ?_) (fun _ => ?_) | with_reducible refine wp_condN (fun _ => ?_) (fun _ => ?_) | with_reducible refine wp_cond (fun _ => ?_) (fun _ => ?_))
      all_goals first
        | (simp; done)
        | (rw [decide_eq_true_eq]; simp; have := hz.1 (by assumption); rw [hl]
           apply Classical.byContradiction
           intro hh
           exact hn ⟨this, by omega, by omega⟩)
    · repeat' (first | with_reducible refine wp_finF ?_ | with_reducible refine wp_uA ?_ | with_reducible refine wp_uI ?_ | with_reducible refine wp_uB ?_ | with_reducible refine wp_uL ?_ | with_reducible refine wp_uS ?_ | with_reducible refine wp_uP ?_ | with_reducible refine wp_uc ?_ | with_reducible refine wp_nl ?_ | with_reducible refine wp_asB ?_ | with_reducible refine wp_asI ?_ | with_reducible refine wp_asSl ?_ | with_reducible refine wp_asT ?_ | with_reducible refine wp_asA ?_ | with_reducible refine wp_asS ?_ | with_reducible refine wp_asP ?_ | with_reducible refine wp_nN ?_ | with_reducible refine wp_rN ?_ | with_reducible refine wp_xN ?_ | with_reducible refine wp_nB ?_ | with_reducible refine wp_rB ?_ | with_reducible refine wp_xB rfl ?_ | with_reducible refine wp_xB' rfl ?_ | with_reducible refine wp_bB ?_ | with_reducible refine wp_rX ?_ | with_reducible refine wp_xX ?_ | with_reducible refine wp_rE ?_ | with_reducible refine wp_xE ?_ | with_reducible refine wp_rR ?_ | with_reducible refine wp_xR ?_ | with_reducible refine wp_r0 ?_ | with_reducible refine wp_x0 ?_ | with_reducible refine wp_rF ?_ | with_reducible refine wp_rF0 ?_ | with_reducible refine wp_rF2 ?_ | with_reducible refine wp_rF3 ?_ | with_reducible refine wp_rF4 ?_ | with_reducible refine wp_condT ?_ | with_reducible refine wp_condF ?_ | with_reducible refine wp_condNT ?_ | with_reducible refine wp_condNF ?_)
      rfl
end Go.Proofs.Ytolchnaegifckaa.HP
