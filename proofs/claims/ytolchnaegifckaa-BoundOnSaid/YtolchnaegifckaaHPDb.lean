/- What bound's functions compute: Most, Next. Conditions: none (lemmas). -/
import Derived.Test.YtolchnaegifckaaHPCf
import Derived.Test.YtolchnaegifckaaHPDa
namespace Go.Proofs.Ytolchnaegifckaa.HP
open Go

theorem eqI {Q : HV → Heap → Prop} {H : Heap} {a b : Int} (h : Q (I a) H) (e : a = b) : Q (I b) H := by subst e; exact h
theorem wrs : ∀ z : Int, -1000000000 ≤ z → z ≤ 1000000000 → wr z = z := fun z h1 h2 => wr_small (by omega) (by omega)
theorem getD_lt {w : List Int} {k : Nat} (h : k < w.length) : w.getD k 0 = w[k] := by rw [List.getD_eq_getElem?_getD, List.getElem?_eq_getElem h]; rfl
theorem bound_one_wp {D : HV → List HV → M HV} {H : Heap} {Q : HV → Heap → Prop} {t : Sl} {w : List Int} (ht : RInts H t w) {x : Ins} {i : Nat} (hi : i + 1 < w.length) (hi2 : i ≤ 1000) (ha : x.op = 3 ∨ x.op = 20 → 0 ≤ x.a ∧ x.a.toNat < w.length)
    (hw : ∀ y ∈ w, 0 ≤ y ∧ y ≤ 1000) (h : Q (I (oneB x (w.getD (i + 1) 0) (w.getD x.a.toNat 0))) H) : wp (f_bound_one D [.agg x.cs, I i, .sl t]) Q H := by
  unfold f_bound_one
  have h1 : wr ((i : Int) + 1) = ((i + 1 : Nat) : Int) := by rw [wr_small (by omega) (by omega)]; rfl
  have g1 := getD_lt hi
  have b1 := hw _ (List.getElem_mem hi)
  have hwr := wrs
  repeat' (first | with_reducible refine wp_finF ?_ | with_reducible refine wp_uA ?_ | with_reducible refine wp_uI ?_ | with_reducible refine wp_uB ?_ | with_reducible refine wp_uL ?_ | with_reducible refine wp_uS ?_ | with_reducible refine wp_uP ?_ | with_reducible refine wp_uc ?_ | with_reducible refine wp_nl ?_ | with_reducible refine wp_asB ?_ | with_reducible refine wp_asI ?_ | with_reducible refine wp_asSl ?_ | with_reducible refine wp_asT ?_ | with_reducible refine wp_asA ?_ | with_reducible refine wp_asS ?_ | with_reducible refine wp_asP ?_ | with_reducible refine wp_nN ?_ | with_reducible refine wp_rN ?_ | with_reducible refine wp_xN ?_ | with_reducible refine wp_nB ?_ | with_reducible refine wp_rB ?_ | with_reducible refine wp_xB rfl ?_ | with_reducible refine wp_xB' rfl ?_ | with_reducible refine wp_bB ?_ | with_reducible refine wp_rX ?_ | with_reducible refine wp_xX ?_ | with_reducible refine wp_rE ?_ | with_reducible refine wp_xE ?_ | with_reducible refine wp_rR ?_ | with_reducible refine wp_xR ?_ | with_reducible refine wp_r0 ?_ | with_reducible refine wp_x0 ?_ | with_reducible refine wp_rF ?_ | with_reducible refine wp_rF0 ?_ | with_reducible refine wp_rF2 ?_ | with_reducible refine wp_rF3 ?_ | with_reducible refine wp_rF4 ?_ | with_reducible refine wp_condT ?_ | with_reducible refine wp_condF ?_ | with_reducible refine wp_condNT ?_ | with_reducible refine wp_condNF ?_)
  rw [h1]
  by_cases hj : x.op = 3 ∨ x.op = 20
  · obtain ⟨ha0, hal⟩ := ha hj
    have g2 := getD_lt hal
    have b2 := hw _ (List.getElem_mem hal)
    have ea : x.a = ((x.a.toNat : Nat) : Int) := by omega
    repeat' (first | with_reducible refine wp_finF ?_ | with_reducible refine wp_uA ?_ | with_reducible refine wp_uI ?_ | with_reducible refine wp_uB ?_ | with_reducible refine wp_uL ?_ | with_reducible refine wp_uS ?_ | with_reducible refine wp_uP ?_ | with_reducible refine wp_uc ?_ | with_reducible refine wp_nl ?_ | with_reducible refine wp_asB ?_ | with_reducible refine wp_asI ?_ | with_reducible refine wp_asSl ?_ | with_reducible refine wp_asT ?_ | with_reducible refine wp_asA ?_ | with_reducible refine wp_asS ?_ | with_reducible refine wp_asP ?_ | with_reducible refine wp_jn ?_ | with_reducible refine wp_nN ?_ | with_reducible refine wp_rN ?_ | with_reducible refine wp_xN ?_ | with_reducible refine wp_nB ?_ | with_reducible refine wp_rB ?_ | with_reducible refine wp_xB rfl ?_ | with_reducible refine wp_xB' rfl ?_ | with_reducible refine wp_bB ?_ | with_reducible refine wp_rX ?_ | with_reducible refine wp_xX ?_ | with_reducible refine wp_rE ?_ | with_reducible refine wp_xE ?_ | with_reducible refine wp_rR ?_ | with_reducible refine wp_xR ?_ | with_reducible refine wp_r0 ?_ | with_reducible refine wp_x0 ?_ | with_reducible refine wp_rF ?_ | with_reducible refine wp_rF0 ?_ | with_reducible refine wp_rF2 ?_ | with_reducible refine wp_rF3 ?_ | with_reducible refine wp_rF4 ?_ | with_reducible refine wp_condT ?_ | with_reducible refine wp_condF ?_ | with_reducible refine wp_condNT ?_ | with_reducible refine wp_condNF ?_ | with_reducible refine wp_condD (fun _ => ?_) (fun _ => ?_) | with_reducible refine wp_condE (fun _ => ?_) (fun _ => ?_) | with_reducible refine wp_condNE (fun _ => ?_) (fun _ => ?_) | with_reducible refine wp_condN (fun _ => ?_) (fun _ => ?_) | with_reducible refine wp_cond (fun _ => ?_) (fun _ => ?_) | with_reducible refine wp_atI ht hi fun _ _ => ?_ | with_reducible refine wp_atI' ht ea hal fun _ _ => ?_)
    all_goals
      refine eqI h ?_
      rw [g1, g2]
      clear h ha ht hw g1 g2 h1
      generalize w[i + 1] = u at *
      generalize w[x.a.toNat] = v at *
      unfold oneB imax
      grind
  · repeat' (first | with_reducible refine wp_finF ?_ | with_reducible refine wp_uA ?_ | with_reducible refine wp_uI ?_ | with_reducible refine wp_uB ?_ | with_reducible refine wp_uL ?_ | with_reducible refine wp_uS ?_ | with_reducible refine wp_uP ?_ | with_reducible refine wp_uc ?_ | with_reducible refine wp_nl ?_ | with_reducible refine wp_asB ?_ | with_reducible refine wp_asI ?_ | with_reducible refine wp_asSl ?_ | with_reducible refine wp_asT ?_ | with_reducible refine wp_asA ?_ | with_reducible refine wp_asS ?_ | with_reducible refine wp_asP ?_ | with_reducible refine wp_jn ?_ | with_reducible refine wp_nN ?_ | with_reducible refine wp_rN ?_ | with_reducible refine wp_xN ?_ | with_reducible refine wp_nB ?_ | with_reducible refine wp_rB ?_ | with_reducible refine wp_xB rfl ?_ | with_reducible refine wp_xB' rfl ?_ | with_reducible refine wp_bB ?_ | with_reducible refine wp_rX ?_ | with_reducible refine wp_xX ?_ | with_reducible refine wp_rE ?_ | with_reducible refine wp_xE ?_ | with_reducible refine wp_rR ?_ | with_reducible refine wp_xR ?_ | with_reducible refine wp_r0 ?_ | with_reducible refine wp_x0 ?_ | with_reducible refine wp_rF ?_ | with_reducible refine wp_rF0 ?_ | with_reducible refine wp_rF2 ?_ | with_reducible refine wp_rF3 ?_ | with_reducible refine wp_rF4 ?_ | with_reducible refine wp_condT ?_ | with_reducible refine wp_condF ?_ | with_reducible refine wp_condNT ?_ | with_reducible refine wp_condNF ?_ | with_reducible refine wp_condD (fun _ => ?_) (fun _ => ?_) | with_reducible refine wp_condE (fun _ => ?_) (fun _ => ?_) | with_reducible refine wp_condNE (fun _ => ?_) (fun _ => ?_) | with_reducible refine wp_condN (fun _ => ?_) (fun _ => ?_) | with_reducible refine wp_cond (fun _ => ?_) (fun _ => ?_) | with_reducible refine wp_atI ht hi fun _ _ => ?_)
    all_goals first
      | (exfalso; omega)
      | (refine eqI h ?_
         rw [g1]
         clear h ha ht hw g1 h1
         generalize w[i + 1] = u at *
         unfold oneB
         grind)

def bdW (p : List Ins) (j : Nat) : List Int := (List.range (p.length + 1)).map fun k => if p.length - j ≤ k then Bd p k else 0
def bds (p : List Ins) : List Int := (List.range (p.length + 1)).map (Bd p)
theorem bds_len {p : List Ins} : (bds p).length = p.length + 1 := by simp [bds]
theorem bds_get {p : List Ins} {k : Nat} (hk : k < p.length + 1) : (bds p)[k]? = some (Bd p k) := by simp [bds, hk]
theorem bdW_len {p : List Ins} {i : Nat} : (bdW p i).length = p.length + 1 := by simp [bdW]
theorem bdW_get {p : List Ins} {i k : Nat} (hk : k < p.length + 1) : (bdW p i)[k]? = some (if p.length - i ≤ k then Bd p k else 0) := by simp [bdW, hk]
theorem bdW_all {p : List Ins} : bdW p p.length = bds p := by
  unfold bdW bds
  apply List.map_congr_left
  intro k hk
  rw [if_pos (by omega)]
theorem bdW_getD {p : List Ins} {i k : Nat} (hk : k < p.length + 1) : (bdW p i).getD k 0 = if p.length - i ≤ k then Bd p k else 0 := by
  rw [List.getD_eq_getElem?_getD, bdW_get hk]; rfl
theorem bound_Most_wp {D : HV → List HV → M HV} {H : Heap} {Q : HV → Heap → Prop} {s : Sl} {p : List Ins} (hs : RProg H s p) (hf : ∀ x ∈ p, IFit x)
    (h1 : CanB p → ∀ b H', Keeps H H' → H.n ≤ b → Nums H' b (bds p) → Q (.sl (numSl b (p.length + 1))) H') (h2 : ¬ CanB p → ∀ H', Keeps H H' → Q (.sl ⟨none, 0, 0, none⟩) H') : wp (f_bound_Most D [.sl s]) Q H := by
  unfold f_bound_Most
  have hlen := hs.len
  repeat' (first | with_reducible refine wp_finF ?_ | with_reducible refine wp_uA ?_ | with_reducible refine wp_uI ?_ | with_reducible refine wp_uB ?_ | with_reducible refine wp_uL ?_ | with_reducible refine wp_uS ?_ | with_reducible refine wp_uP ?_ | with_reducible refine wp_uc ?_ | with_reducible refine wp_nl ?_ | with_reducible refine wp_asB ?_ | with_reducible refine wp_asI ?_ | with_reducible refine wp_asSl ?_ | with_reducible refine wp_asT ?_ | with_reducible refine wp_asA ?_ | with_reducible refine wp_asS ?_ | with_reducible refine wp_asP ?_ | with_reducible refine wp_nN ?_ | with_reducible refine wp_rN ?_ | with_reducible refine wp_xN ?_ | with_reducible refine wp_nB ?_ | with_reducible refine wp_rB ?_ | with_reducible refine wp_xB rfl ?_ | with_reducible refine wp_xB' rfl ?_ | with_reducible refine wp_bB ?_ | with_reducible refine wp_rX ?_ | with_reducible refine wp_xX ?_ | with_reducible refine wp_rE ?_ | with_reducible refine wp_xE ?_ | with_reducible refine wp_rR ?_ | with_reducible refine wp_xR ?_ | with_reducible refine wp_r0 ?_ | with_reducible refine wp_x0 ?_ | with_reducible refine wp_rF ?_ | with_reducible refine wp_rF0 ?_ | with_reducible refine wp_rF2 ?_ | with_reducible refine wp_rF3 ?_ | with_reducible refine wp_rF4 ?_ | with_reducible refine wp_condT ?_ | with_reducible refine wp_condF ?_ | with_reducible refine wp_condNT ?_ | with_reducible refine wp_condNF ?_)
  refine wp_bnd (bound_can_wp hs hf fun z H1 hk hz => ?_)
  cases z
  · repeat' (first | with_reducible refine wp_finF ?_ | with_reducible refine wp_uA ?_ | with_reducible refine wp_uI ?_ | with_reducible refine wp_uB ?_ | with_reducible refine wp_uL ?_ | with_reducible refine wp_uS ?_ | with_reducible refine wp_uP ?_ | with_reducible refine wp_uc ?_ | with_reducible refine wp_nl ?_ | with_reducible refine wp_asB ?_ | with_reducible refine wp_asI ?_ | with_reducible refine wp_asSl ?_ | with_reducible refine wp_asT ?_ | with_reducible refine wp_asA ?_ | with_reducible refine wp_asS ?_ | with_reducible refine wp_asP ?_ | with_reducible refine wp_jn ?_ | with_reducible refine wp_nN ?_ | with_reducible refine wp_rN ?_ | with_reducible refine wp_xN ?_ | with_reducible refine wp_nB ?_ | with_reducible refine wp_rB ?_ | with_reducible refine wp_xB rfl ?_ | with_reducible refine wp_xB' rfl ?_ | with_reducible refine wp_bB ?_ | with_reducible refine wp_rX ?_ | with_reducible refine wp_xX ?_ | with_reducible refine wp_rE ?_ | with_reducible refine wp_xE ?_ | with_reducible refine wp_rR ?_ | with_reducible refine wp_xR ?_ | with_reducible refine wp_r0 ?_ | with_reducible refine wp_x0 ?_ | with_reducible refine wp_rF ?_ | with_reducible refine wp_rF0 ?_ | with_reducible refine wp_rF2 ?_ | with_reducible refine wp_rF3 ?_ | with_reducible refine wp_rF4 ?_ | with_reducible refine wp_condT ?_ | with_reducible refine wp_condF ?_ | with_reducible refine wp_condNT ?_ | with_reducible refine wp_condNF ?_ | with_reducible refine wp_condD (fun _ => ?_) (fun _ => ?_) | with_reducible refine wp_condE (fun _ => ?_) (fun _ => ?_) | with_reducible refine wp_condNE (fun _ => ?_) (fun _ => ?_) | with_reducible refine wp_condN (fun _ => ?_) (fun _ => ?_) | with_reducible refine wp_cond (fun _ => ?_) (fun _ => ?_))
    exact h2 (fun hc => by have := hz.2 hc; cases this) H1 hk
  have hc := hz.1 rfl
  have h48 := hc.len
  repeat' (first | with_reducible refine wp_finF ?_ | with_reducible refine wp_uA ?_ | with_reducible refine wp_uI ?_ | with_reducible refine wp_uB ?_ | with_reducible refine wp_uL ?_ | with_reducible refine wp_uS ?_ | with_reducible refine wp_uP ?_ | with_reducible refine wp_uc ?_ | with_reducible refine wp_nl ?_ | with_reducible refine wp_asB ?_ | with_reducible refine wp_asI ?_ | with_reducible refine wp_asSl ?_ | with_reducible refine wp_asT ?_ | with_reducible refine wp_asA ?_ | with_reducible refine wp_asS ?_ | with_reducible refine wp_asP ?_ | with_reducible refine wp_nN ?_ | with_reducible refine wp_rN ?_ | with_reducible refine wp_xN ?_ | with_reducible refine wp_nB ?_ | with_reducible refine wp_rB ?_ | with_reducible refine wp_xB rfl ?_ | with_reducible refine wp_xB' rfl ?_ | with_reducible refine wp_bB ?_ | with_reducible refine wp_rX ?_ | with_reducible refine wp_xX ?_ | with_reducible refine wp_rE ?_ | with_reducible refine wp_xE ?_ | with_reducible refine wp_rR ?_ | with_reducible refine wp_xR ?_ | with_reducible refine wp_r0 ?_ | with_reducible refine wp_x0 ?_ | with_reducible refine wp_rF ?_ | with_reducible refine wp_rF0 ?_ | with_reducible refine wp_rF2 ?_ | with_reducible refine wp_rF3 ?_ | with_reducible refine wp_rF4 ?_ | with_reducible refine wp_condT ?_ | with_reducible refine wp_condF ?_ | with_reducible refine wp_condNT ?_ | with_reducible refine wp_condNF ?_)
  have e1 : wr ((s.len : Int) + 1) = ((p.length + 1 : Nat) : Int) := by rw [hlen, wr_small (by omega) (by omega)]; rfl
  rw [e1]
  refine wp_gdD (by omega) (wp_gdD (by omega) (wp_gdD (by simp only [room, Int.toNat_natCast]; omega) (wp_nw ?_)))
  have hsl : (⟨some (H1.n, 0), ((p.length + 1 : Nat) : Int).toNat, ((p.length + 1 : Nat) : Int).toNat, none⟩ : Sl) = numSl H1.n (p.length + 1) := by simp [numSl]
  rw [hsl]
  have hn0 : Nums (H1.push (.cells (repL ((p.length + 1 : Nat) : Int).toNat [I 0]) false)) H1.n (bdW p 0) := by
    refine ⟨by simp [Heap.push], ?_, by rw [bdW_len]; omega⟩
    simp only [Heap.push, if_pos]
    rw [repL_one]
    congr 1
    apply List.ext_getElem?
    intro j
    rw [List.getElem?_map]
    simp only [Int.toNat_natCast, List.getElem?_replicate]
    by_cases hj : j < p.length + 1
    · rw [bdW_get hj, if_pos hj]
      split
      · rw [Bd_end (by omega)]; rfl
      · rfl
    · rw [List.getElem?_eq_none (by rw [bdW_len]; omega), if_neg hj]; rfl
  refine wp_blk ?_
  refine wp_range (σ := Unit) p.length (fun j _ => [I ((p.length : Int) - 1 - j)]) (fun j _ H' => Keeps H H' ∧ Nums H' H1.n (bdW p j)) () (by rw [hlen, wr_small (by omega) (by omega)]; simp) ⟨hk.trans (Keeps.push _ _), hn0⟩ ?_ ?_
  · rintro j _ H2 hj ⟨hk2, hnm⟩
    obtain ⟨k, hkk⟩ : ∃ k : Nat, (p.length : Int) - 1 - j = k := ⟨p.length - 1 - j, by omega⟩
    have hkp : k < p.length := by omega
    have hkj : p.length - j = k + 1 := by omega
    simp only [hkk]
    repeat' (first | with_reducible refine wp_finF ?_ | with_reducible refine wp_uA ?_ | with_reducible refine wp_uI ?_ | with_reducible refine wp_uB ?_ | with_reducible refine wp_uL ?_ | with_reducible refine wp_uS ?_ | with_reducible refine wp_uP ?_ | with_reducible refine wp_uc ?_ | with_reducible refine wp_nl ?_ | with_reducible refine wp_asB ?_ | with_reducible refine wp_asI ?_ | with_reducible refine wp_asSl ?_ | with_reducible refine wp_asT ?_ | with_reducible refine wp_asA ?_ | with_reducible refine wp_asS ?_ | with_reducible refine wp_asP ?_ | with_reducible refine wp_nN ?_ | with_reducible refine wp_rN ?_ | with_reducible refine wp_xN ?_ | with_reducible refine wp_nB ?_ | with_reducible refine wp_rB ?_ | with_reducible refine wp_xB rfl ?_ | with_reducible refine wp_xB' rfl ?_ | with_reducible refine wp_bB ?_ | with_reducible refine wp_rX ?_ | with_reducible refine wp_xX ?_ | with_reducible refine wp_rE ?_ | with_reducible refine wp_xE ?_ | with_reducible refine wp_rR ?_ | with_reducible refine wp_xR ?_ | with_reducible refine wp_r0 ?_ | with_reducible refine wp_x0 ?_ | with_reducible refine wp_rF ?_ | with_reducible refine wp_rF0 ?_ | with_reducible refine wp_rF2 ?_ | with_reducible refine wp_rF3 ?_ | with_reducible refine wp_rF4 ?_ | with_reducible refine wp_condT ?_ | with_reducible refine wp_condF ?_ | with_reducible refine wp_condNT ?_ | with_reducible refine wp_condNF ?_)
    refine wp_condD (fun _ => ?_) (fun hcc => by omega)
    refine wp_at (hs.keeps hk2) hkp fun _ _ => ?_
    repeat' (first | with_reducible refine wp_finF ?_ | with_reducible refine wp_uA ?_ | with_reducible refine wp_uI ?_ | with_reducible refine wp_uB ?_ | with_reducible refine wp_uL ?_ | with_reducible refine wp_uS ?_ | with_reducible refine wp_uP ?_ | with_reducible refine wp_uc ?_ | with_reducible refine wp_nl ?_ | with_reducible refine wp_asB ?_ | with_reducible refine wp_asI ?_ | with_reducible refine wp_asSl ?_ | with_reducible refine wp_asT ?_ | with_reducible refine wp_asA ?_ | with_reducible refine wp_asS ?_ | with_reducible refine wp_asP ?_ | with_reducible refine wp_nN ?_ | with_reducible refine wp_rN ?_ | with_reducible refine wp_xN ?_ | with_reducible refine wp_nB ?_ | with_reducible refine wp_rB ?_ | with_reducible refine wp_xB rfl ?_ | with_reducible refine wp_xB' rfl ?_ | with_reducible refine wp_bB ?_ | with_reducible refine wp_rX ?_ | with_reducible refine wp_xX ?_ | with_reducible refine wp_rE ?_ | with_reducible refine wp_xE ?_ | with_reducible refine wp_rR ?_ | with_reducible refine wp_xR ?_ | with_reducible refine wp_r0 ?_ | with_reducible refine wp_x0 ?_ | with_reducible refine wp_rF ?_ | with_reducible refine wp_rF0 ?_ | with_reducible refine wp_rF2 ?_ | with_reducible refine wp_rF3 ?_ | with_reducible refine wp_rF4 ?_ | with_reducible refine wp_condT ?_ | with_reducible refine wp_condF ?_ | with_reducible refine wp_condNT ?_ | with_reducible refine wp_condNF ?_)
    have hr : RInts H2 (numSl H1.n (p.length + 1)) (bdW p j) := by
      have := hnm.ints
      rw [bdW_len] at this
      exact this
    have hbnd : ∀ y ∈ bdW p j, 0 ≤ y ∧ y ≤ 1000 := by
      intro y hy
      obtain ⟨q, hq, rfl⟩ := List.mem_map.1 hy
      split
      · have h1 := Bd_nonneg hc q
        have h2 := Bd_small hc q
        omega
      · omega
    refine wp_bnd (bound_one_wp hr (x := p[k]) (by rw [bdW_len]; omega) (by omega) (fun ho => ?_) hbnd ?_)
    · have := hc.fwd k hkp ho
      rw [bdW_len]; omega
    have hval : oneB p[k] ((bdW p j).getD (k + 1) 0) ((bdW p j).getD (p[k]).a.toNat 0) = Bd p k := by
      rw [Bd_eq hc.fwd hkp]
      refine oneB_congr ?_ fun ho => ?_
      · rw [bdW_getD (by omega), if_pos (by omega)]
      · have := hc.fwd k hkp ho
        rw [bdW_getD (by omega), if_pos (by omega)]
    rw [hval]
    repeat' (first | with_reducible refine wp_finF ?_ | with_reducible refine wp_uA ?_ | with_reducible refine wp_uI ?_ | with_reducible refine wp_uB ?_ | with_reducible refine wp_uL ?_ | with_reducible refine wp_uS ?_ | with_reducible refine wp_uP ?_ | with_reducible refine wp_uc ?_ | with_reducible refine wp_nl ?_ | with_reducible refine wp_asB ?_ | with_reducible refine wp_asI ?_ | with_reducible refine wp_asSl ?_ | with_reducible refine wp_asT ?_ | with_reducible refine wp_asA ?_ | with_reducible refine wp_asS ?_ | with_reducible refine wp_asP ?_ | with_reducible refine wp_nN ?_ | with_reducible refine wp_rN ?_ | with_reducible refine wp_xN ?_ | with_reducible refine wp_nB ?_ | with_reducible refine wp_rB ?_ | with_reducible refine wp_xB rfl ?_ | with_reducible refine wp_xB' rfl ?_ | with_reducible refine wp_bB ?_ | with_reducible refine wp_rX ?_ | with_reducible refine wp_xX ?_ | with_reducible refine wp_rE ?_ | with_reducible refine wp_xE ?_ | with_reducible refine wp_rR ?_ | with_reducible refine wp_xR ?_ | with_reducible refine wp_r0 ?_ | with_reducible refine wp_x0 ?_ | with_reducible refine wp_rF ?_ | with_reducible refine wp_rF0 ?_ | with_reducible refine wp_rF2 ?_ | with_reducible refine wp_rF3 ?_ | with_reducible refine wp_rF4 ?_ | with_reducible refine wp_condT ?_ | with_reducible refine wp_condF ?_ | with_reducible refine wp_condNT ?_ | with_reducible refine wp_condNF ?_)
    refine wp_numset hnm (by rw [bdW_len]) (by omega) (by rw [bdW_len]; simp; omega) fun hn2 => ?_
    have hset : (bdW p j).set (k : Int).toNat (Bd p k) = bdW p (j + 1) := by
      refine set_eq_of (n := p.length + 1) bdW_len bdW_len (by simp; omega) ?_ ?_
      · rw [Int.toNat_natCast, bdW_get (by omega), if_pos (by omega)]
      · intro q hq hqk
        rw [Int.toNat_natCast] at hqk
        rw [bdW_get hq, bdW_get hq]
        have : (p.length - (j + 1) ≤ q) ↔ p.length - j ≤ q := by omega
        simp only [this]
    rw [hset] at hn2
    refine wp_nX ⟨(), ?_, hk2.set (by have := hk.n; omega) _, hn2⟩
    rw [wr_small (by omega) (by omega)]
    congr 2; omega
  · rintro _ H2 ⟨hk2, hnm⟩
    repeat' (first | with_reducible refine wp_finF ?_ | with_reducible refine wp_uA ?_ | with_reducible refine wp_uI ?_ | with_reducible refine wp_uB ?_ | with_reducible refine wp_uL ?_ | with_reducible refine wp_uS ?_ | with_reducible refine wp_uP ?_ | with_reducible refine wp_uc ?_ | with_reducible refine wp_nl ?_ | with_reducible refine wp_asB ?_ | with_reducible refine wp_asI ?_ | with_reducible refine wp_asSl ?_ | with_reducible refine wp_asT ?_ | with_reducible refine wp_asA ?_ | with_reducible refine wp_asS ?_ | with_reducible refine wp_asP ?_ | with_reducible refine wp_nN ?_ | with_reducible refine wp_rN ?_ | with_reducible refine wp_xN ?_ | with_reducible refine wp_nB ?_ | with_reducible refine wp_rB ?_ | with_reducible refine wp_xB rfl ?_ | with_reducible refine wp_xB' rfl ?_ | with_reducible refine wp_bB ?_ | with_reducible refine wp_rX ?_ | with_reducible refine wp_xX ?_ | with_reducible refine wp_rE ?_ | with_reducible refine wp_xE ?_ | with_reducible refine wp_rR ?_ | with_reducible refine wp_xR ?_ | with_reducible refine wp_r0 ?_ | with_reducible refine wp_x0 ?_ | with_reducible refine wp_rF ?_ | with_reducible refine wp_rF0 ?_ | with_reducible refine wp_rF2 ?_ | with_reducible refine wp_rF3 ?_ | with_reducible refine wp_rF4 ?_ | with_reducible refine wp_condT ?_ | with_reducible refine wp_condF ?_ | with_reducible refine wp_condNT ?_ | with_reducible refine wp_condNF ?_)
    refine wp_condD (fun hcc => by omega) (fun _ => ?_)
    repeat' (first | with_reducible refine wp_finF ?_ | with_reducible refine wp_uA ?_ | with_reducible refine wp_uI ?_ | with_reducible refine wp_uB ?_ | with_reducible refine wp_uL ?_ | with_reducible refine wp_uS ?_ | with_reducible refine wp_uP ?_ | with_reducible refine wp_uc ?_ | with_reducible refine wp_nl ?_ | with_reducible refine wp_asB ?_ | with_reducible refine wp_asI ?_ | with_reducible refine wp_asSl ?_ | with_reducible refine wp_asT ?_ | with_reducible refine wp_asA ?_ | with_reducible refine wp_asS ?_ | with_reducible refine wp_asP ?_ | with_reducible refine wp_nN ?_ | with_reducible refine wp_rN ?_ | with_reducible refine wp_xN ?_ | with_reducible refine wp_nB ?_ | with_reducible refine wp_rB ?_ | with_reducible refine wp_xB rfl ?_ | with_reducible refine wp_xB' rfl ?_ | with_reducible refine wp_bB ?_ | with_reducible refine wp_rX ?_ | with_reducible refine wp_xX ?_ | with_reducible refine wp_rE ?_ | with_reducible refine wp_xE ?_ | with_reducible refine wp_rR ?_ | with_reducible refine wp_xR ?_ | with_reducible refine wp_r0 ?_ | with_reducible refine wp_x0 ?_ | with_reducible refine wp_rF ?_ | with_reducible refine wp_rF0 ?_ | with_reducible refine wp_rF2 ?_ | with_reducible refine wp_rF3 ?_ | with_reducible refine wp_rF4 ?_ | with_reducible refine wp_condT ?_ | with_reducible refine wp_condF ?_ | with_reducible refine wp_condNT ?_ | with_reducible refine wp_condNF ?_)
    rw [bdW_all] at hnm
    exact h1 hc _ _ hk2 hk.n hnm
end Go.Proofs.Ytolchnaegifckaa.HP
