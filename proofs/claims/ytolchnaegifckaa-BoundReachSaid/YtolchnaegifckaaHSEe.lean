/- What the document's Seen computes. Conditions: none (lemmas). -/
import Derived.Test.YtolchnaegifckaaHSEa
import Derived.Test.YtolchnaegifckaaHSDf
namespace Go.Proofs.Ytolchnaegifckaa.HS
open Go

section
variable {α : Type} {Q : α → Heap → Prop} {H : Heap}
theorem wp_gxB {L : List Bool} {e i : Nat} (he : e = i) (hi : i < L.length) {g : HV → M α} (hg : wp (g (.bool L[i])) Q H) : wp (gx (L.map HV.bool) e g) Q H := by
  subst he
  unfold gx
  rw [List.getElem?_map, List.getElem?_eq_getElem hi]; exact hg
end
theorem putN_full {xs ys : List HV} (h : ys.length = xs.length) : putN xs 0 ys = ys := by
  unfold putN
  rw [Nat.zero_add, List.take_zero, List.nil_append, h, List.drop_length, List.append_nil]
theorem count_set_lt : ∀ {L : List Bool} {i : Nat} (hi : i < L.length), L[i] = false → (L.set i true).count false < L.count false
  | x :: L, 0, _, h => by
    simp only [List.getElem_cons_zero] at h; subst h
    simp
  | x :: L, i + 1, hi, h => by
    have := count_set_lt (L := L) (i := i) (by simpa using hi) (by simpa using h)
    simp only [List.set_cons_succ, List.count_cons]
    omega

/-- no step out of L leads to a place that is not in L. -/
def Shut (p : List Ins) (L : List Bool) (i : Nat) (t : Nat) : Prop :=
  ∀ j (hj : j < p.length) k, (j < i ∨ j = i ∧ k < t) → k ≤ p.length → L.getD j false = true → (k : Int) ∈ nextL p[j] j → L.getD k false = true
structure SeenI (p : List Ins) (a : Nat) (L : List Bool) : Prop where
  len : L.length = 49
  ok : ∀ j, L.getD j false = true → Rch p a j
  a : L.getD a false = true
theorem SeenI.set {p : List Ins} {a : Nat} {L : List Bool} (h : SeenI p a L) {k : Nat} (hk : Rch p a k) : SeenI p a (L.set k true) := by
  refine ⟨by rw [List.length_set]; exact h.len, fun j hj => ?_, ?_⟩
  · by_cases e : j = k
    · subst e; exact hk
    · rw [List.getD_eq_getElem?_getD, List.getElem?_set_ne (Ne.symm e), ← List.getD_eq_getElem?_getD] at hj
      exact h.ok j hj
  · by_cases e : a = k
    · subst e
      rw [List.getD_eq_getElem?_getD]
      by_cases hl : a < L.length
      · rw [List.getElem?_set_self hl]; rfl
      · have := h.a
        rw [List.getD_eq_getElem?_getD, List.getElem?_eq_none (by omega)] at this
        cases this
    · rw [List.getD_eq_getElem?_getD, List.getElem?_set_ne (Ne.symm e), ← List.getD_eq_getElem?_getD]; exact h.a
/-- a pass: what changed. -/
structure Pass (p : List Ins) (a : Nat) (L0 L : List Bool) (m : Bool) (i t : Nat) : Prop where
  ok : SeenI p a L
  lt : m = true → L.count false < L0.count false
  eq : m = false → L = L0 ∧ Shut p L0 i t
theorem rch_le {p : List Ins} (hc : CanB p) {a j : Nat} (ha : a ≤ p.length) (h : Rch p a j) : j ≤ p.length := by
  cases h with
  | refl => exact ha
  | step hi _ hm => have := nextL_range hc hi hm; omega
theorem shut_all {p : List Ins} (hc : CanB p) {a : Nat} {L : List Bool} (h : SeenI p a L) (hs : Shut p L p.length 0) : ∀ j, L.getD j false = true ↔ Rch p a j := by
  intro j
  refine ⟨h.ok j, fun hr => ?_⟩
  induction hr with
  | refl => exact h.a
  | step hi hr hm ih =>
    have := nextL_range hc hi hm
    exact hs _ hi _ (.inl hi) (by omega) ih hm

theorem getD_of {L : List Bool} {j : Nat} (h : j < L.length) : L.getD j false = L[j] := by
  rw [List.getD_eq_getElem?_getD, List.getElem?_eq_getElem h]; rfl
theorem Pass.hit {p : List Ins} {a : Nat} {L0 L : List Bool} {m : Bool} {i t : Nat} (h : Pass p a L0 L m i t) (hi : i < p.length) (h1 : L.getD i false = true) (hm : (t : Int) ∈ nextL p[i] i) (ht : t < L.length) (h2 : L[t] = false) : Pass p a L0 (L.set t true) true i (t + 1) := by
  refine ⟨h.ok.set (.step hi (h.ok.ok _ h1) hm), fun _ => ?_, fun hh => by cases hh⟩
  have := count_set_lt ht h2
  cases m with
  | true => have := h.lt rfl; omega
  | false => obtain ⟨rfl, _⟩ := h.eq rfl; exact this
theorem Pass.miss {p : List Ins} {a : Nat} {L0 L : List Bool} {m : Bool} {i t : Nat} (h : Pass p a L0 L m i t) (hn : ∀ hi : i < p.length, L.getD i false = true → (t : Int) ∈ nextL p[i] i → L.getD t false = true) : Pass p a L0 L m i (t + 1) := by
  refine ⟨h.ok, h.lt, fun hm => ?_⟩
  obtain ⟨rfl, hs⟩ := h.eq hm
  refine ⟨rfl, fun j hj k hlt hk h1 h2 => ?_⟩
  by_cases e : j = i ∧ k = t
  · obtain ⟨rfl, rfl⟩ := e; exact hn hj h1 h2
  · exact hs j hj k (by omega) hk h1 h2
theorem Pass.next {p : List Ins} {a : Nat} {L0 L : List Bool} {m : Bool} {i : Nat} (h : Pass p a L0 L m i (p.length + 1)) : Pass p a L0 L m (i + 1) 0 := by
  refine ⟨h.ok, h.lt, fun hm => ?_⟩
  obtain ⟨rfl, hs⟩ := h.eq hm
  exact ⟨rfl, fun j hj k hlt hk h1 h2 => hs j hj k (by omega) hk h1 h2⟩

theorem ref27_Seen_wp {D : HV → List HV → M HV} {H : Heap} {Q : HV → Heap → Prop} {s : Sl} {p : List Ins} (hs : RProg H s p) (hc : CanB p) {a : Nat} (ha : a ≤ p.length)
    (h : ∀ L : List Bool, L.length = 49 → (∀ j, L.getD j false = true ↔ Rch p a j) → Q (.agg (L.map HV.bool)) H) : wp (f_ref27_Seen D [.sl s, I a]) Q H := by
  unfold f_ref27_Seen
  have hlen := hs.lenI
  have h48 := hc.len
  with_reducible repeat' (first | refine wp_finF ?_ | refine wp_uA ?_ | refine wp_uI ?_ | refine wp_uB ?_ | refine wp_uL ?_ | refine wp_uS ?_ | refine wp_uP ?_ | refine wp_uc ?_ | refine wp_nl ?_ | refine wp_asB ?_ | refine wp_asI ?_ | refine wp_asSl ?_ | refine wp_asT ?_ | refine wp_asA ?_ | refine wp_asS ?_ | refine wp_asP ?_ | refine wp_nN ?_ | refine wp_rN ?_ | refine wp_xN ?_ | refine wp_nB ?_ | refine wp_rB ?_ | refine wp_xB rfl ?_ | refine wp_xB' rfl ?_ | refine wp_bB ?_ | refine wp_rX ?_ | refine wp_xX ?_ | refine wp_rE ?_ | refine wp_xE ?_ | refine wp_rR ?_ | refine wp_xR ?_ | refine wp_r0 ?_ | refine wp_x0 ?_ | refine wp_rF ?_ | refine wp_rF0 ?_ | refine wp_rF2 ?_ | refine wp_rF3 ?_ | refine wp_rF4 ?_ | refine wp_condT ?_ | refine wp_condF ?_ | refine wp_condNT ?_ | refine wp_condNF ?_)
  refine wp_gdD (by omega) (wp_gdD (by omega) (wp_gdD (by simp; omega) (wp_blk ?_)))
  have e0 : List.set (List.replicate 49 (HV.bool false)) (0 + (a : Int).toNat * 1) (.bool true) = ((List.replicate 49 false).set a true).map HV.bool := by
    rw [List.map_set, List.map_replicate]; congr 1; omega
  rw [e0]
  have hI0 : SeenI p a ((List.replicate 49 false).set a true) := by
    refine ⟨by simp, fun j hj => ?_, ?_⟩
    · by_cases e : j = a
      · subst e; exact .refl
      · rw [List.getD_eq_getElem?_getD, List.getElem?_set_ne (Ne.symm e), List.getElem?_replicate] at hj
        split at hj <;> cases hj
    · rw [List.getD_eq_getElem?_getD, List.getElem?_set_self (by simp; omega)]; rfl
  refine wp_loop (fun k vs H' => H' = H ∧ ∃ L m, vs = [.bool m, .agg (L.map HV.bool)] ∧ SeenI p a L ∧ k = L.count false + (if m then 1 else 0) ∧ (m = false → Shut p L p.length 0)) _
    ⟨rfl, _, true, rfl, hI0, rfl, (fun hh => by cases hh)⟩ ?_
  rintro k vs H ⟨rfl, L0, m, rfl, hI, hk, hsh⟩
  refine wp_uB (wp_uA (wp_nl (wp_cond (fun c => ?_) (fun c => ?_))))
  · subst c
    refine wp_blk ?_
    refine wp_loop (fun k vs H' => H' = H ∧ ∃ i L m, k + i = p.length ∧ vs = [.bool m, I (i : Int), .agg (L.map HV.bool)] ∧ Pass p a L0 L m i 0) p.length
      ⟨rfl, 0, L0, false, by omega, rfl, hI, (fun hh => by cases hh), fun _ => ⟨rfl, fun j hj k hlt => by omega⟩⟩ ?_
    rintro k1 vs1 H ⟨rfl, i, L1, m1, hk1, rfl, hp1⟩
    refine wp_uB (wp_uI (wp_uA (wp_nl (wp_condD (fun hi => ?_) (fun hi => ?_)))))
    · have hi' : i < p.length := by omega
      have hwi : wr ((i : Int) + 1) = ((i + 1 : Nat) : Int) := by rw [wr_small (by omega) (by omega)]; rfl
      refine wp_blk ?_
      refine wp_loop (fun k vs H' => H' = H ∧ ∃ t L m, k + t = p.length + 1 ∧ vs = [.bool m, I (t : Int), .agg (L.map HV.bool)] ∧ Pass p a L0 L m i t) (p.length + 1)
        ⟨rfl, 0, L1, m1, by omega, rfl, hp1⟩ ?_
      rintro k2 vs2 H ⟨rfl, t, L2, m2, hk2, rfl, hp2⟩
      refine wp_uB (wp_uI (wp_uA (wp_nl (wp_condD (fun ht => ?_) (fun ht => ?_)))))
      · have ht' : t ≤ p.length := by omega
        have hwt : wr ((t : Int) + 1) = ((t + 1 : Nat) : Int) := by rw [wr_small (by omega) (by omega)]; rfl
        have hL := hp2.ok.len
        refine wp_blk ?_
        have hiL : i < L2.length := by omega
        have htL : t < L2.length := by omega
        have gi := getD_of hiL
        have gt := getD_of htL
        refine wp_jnP (L2.getD i false = true ∧ L2.getD t false = false ∧ (t : Int) ∈ nextL p[i] i) ?_ (fun hh => ?_) (fun hh => ?_)
        · refine wp_gdD (by omega) (wp_gdD (by omega) (wp_gxB (i := i) (by omega) hiL (wp_asB ?_)))
          refine wp_cond (fun c1 => ?_) (fun c1 => ?_)
          · refine wp_gdD (by omega) (wp_gdD (by omega) (wp_gxB (i := t) (by omega) htL (wp_asB ?_)))
            refine wp_condN (fun c2 => ?_) (fun c2 => ?_)
            · refine wp_bnd (ref27_Leads_wp hs (by omega) hi' fun z hz => wp_asB (wp_bB ?_))
              rw [hz, mem_nextL (c_range hc hi') (fun ho => (hc.fwd i hi' ho).1), gi, gt, c1, c2]; simp
            · refine wp_bB ?_
              rw [gt, c2]; simp
          · refine wp_bB ?_
            rw [gi, c1]; simp
        · refine wp_uB (wp_nl (wp_condT ?_))
          refine wp_gdD (by omega) (wp_gdD (by omega) (wp_gdD (by simp; omega) (wp_ret ?_)))
          show wp _ _ _
          have e1 : List.set (L2.map HV.bool) (0 + (t : Int).toNat * 1) (.bool true) = (L2.set t true).map HV.bool := by
            rw [List.map_set]; congr 1; omega
          rw [e1]
          refine wp_uB (wp_uA (wp_nl (wp_ret ?_)))
          rw [hwt]
          exact ⟨k2 - 1, by omega, rfl, t + 1, _, true, by omega, rfl, hp2.hit hi' hh.1 hh.2.2 htL (by rw [← gt]; exact hh.2.1)⟩
        · refine wp_uB (wp_nl (wp_condF (wp_ret ?_)))
          show wp _ _ _
          refine wp_uB (wp_uA (wp_nl (wp_ret ?_)))
          rw [hwt]
          refine ⟨k2 - 1, by omega, rfl, t + 1, _, m2, by omega, rfl, hp2.miss fun _ q1 q2 => ?_⟩
          cases hq : L2.getD t false with
          | true => rfl
          | false => exact absurd ⟨q1, hq, q2⟩ hh
      · have : t = p.length + 1 := by omega
        subst this
        refine wp_ret ?_
        show wp _ _ _
        refine wp_uB (wp_uA (wp_nl (wp_ret ?_)))
        rw [hwi]
        exact ⟨k1 - 1, by omega, rfl, i + 1, _, m2, by omega, rfl, hp2.next⟩
    · have : i = p.length := by omega
      subst this
      refine wp_ret ?_
      show wp _ _ _
      refine wp_uB (wp_uA (wp_nl (wp_ret ?_)))
      refine ⟨L1.count false + (if m1 then 1 else 0), ?_, rfl, L1, m1, rfl, hp1.ok, rfl, fun hm => ?_⟩
      · rw [hk]
        cases m1 with
        | true => have := hp1.lt rfl; simp; omega
        | false => obtain ⟨rfl, _⟩ := hp1.eq rfl; simp
      · obtain ⟨rfl, q⟩ := hp1.eq hm; exact q
  · subst c
    refine wp_ret ?_
    show wp _ _ _
    have hL := hI.len
    have hm49 : (L0.map HV.bool).length = 49 := by simpa using hL
    refine wp_uA (wp_nl (wp_gxAll hm49 ?_))
    refine wp_gd (by rw [hm49]; rfl) (wp_gd (by rw [hm49]; simp) ?_)
    rw [putN_full (by rw [hm49]; simp)]
    refine wp_gxAll hm49 (wp_rF ?_)
    exact h L0 hL (shut_all hc hI (hsh rfl))
end Go.Proofs.Ytolchnaegifckaa.HS
namespace Go.Proofs.Ytolchnaegifckaa.HS
open Go

noncomputable def reachL (p : List Ins) : List Bool := (seenL p 0).take p.length
theorem reachL_len (p : List Ins) : (reachL p).length = p.length := by simp [reachL, seenL_len]
theorem reachL_get {p : List Ins} {j : Nat} (hj : j < (reachL p).length) : (reachL p)[j] = true ↔ Rch p 0 j := by
  have hj2 : j < (seenL p 0).length := by rw [reachL_len] at hj; rw [seenL_len]; omega
  rw [← seenL_get hj2]
  simp only [reachL, List.getElem_take]
theorem bound_Reach_wp {D : HV → List HV → M HV} {H : Heap} {Q : HV → Heap → Prop} {s : Sl} {p : List Ins} (hs : RProg H s p) (hf : ∀ x ∈ p, IFit x) (hc : CanB p)
    (h : ∀ s' H', Keeps H H' → (∀ b o, s'.p = some (b, o) → H.n ≤ b) → RBools H' s' (reachL p) → Q (.sl s') H') : wp (f_bound_Reach D [.sl s]) Q H := by
  unfold f_bound_Reach
  have hlen := hs.lenI
  have h48 := hc.len
  with_reducible repeat' (first | refine wp_finF ?_ | refine wp_uA ?_ | refine wp_uI ?_ | refine wp_uB ?_ | refine wp_uL ?_ | refine wp_uS ?_ | refine wp_uP ?_ | refine wp_uc ?_ | refine wp_nl ?_ | refine wp_asB ?_ | refine wp_asI ?_ | refine wp_asSl ?_ | refine wp_asT ?_ | refine wp_asA ?_ | refine wp_asS ?_ | refine wp_asP ?_ | refine wp_nN ?_ | refine wp_rN ?_ | refine wp_xN ?_ | refine wp_nB ?_ | refine wp_rB ?_ | refine wp_xB rfl ?_ | refine wp_xB' rfl ?_ | refine wp_bB ?_ | refine wp_rX ?_ | refine wp_xX ?_ | refine wp_rE ?_ | refine wp_xE ?_ | refine wp_rR ?_ | refine wp_xR ?_ | refine wp_r0 ?_ | refine wp_x0 ?_ | refine wp_rF ?_ | refine wp_rF0 ?_ | refine wp_rF2 ?_ | refine wp_rF3 ?_ | refine wp_rF4 ?_ | refine wp_condT ?_ | refine wp_condF ?_ | refine wp_condNT ?_ | refine wp_condNF ?_)
  refine wp_bnd (bound_can_wp hs hf fun z H1 hk hz => wp_asB ?_)
  have hzt : z = true := hz.2 hc
  subst hzt
  refine wp_condNT (wp_bnd (bound_seen_wp (hs.keeps hk) hc (Nat.zero_le _) fun b H2 hk2 hb hB => wp_asSl ?_))
  have hR := hB.rows
  rw [seenL_len] at hR
  have hR' : SlR H2 (numSl b (p.length + 1)) 1 ((seenL p 0).map fun x => [HV.bool x]) := hR
  rw [hlen]
  refine wp_slice_pre hR' (i := p.length) (by simp [seenL_len]) (wp_rF ?_)
  refine h _ _ (hk.trans hk2) ?_ (hR.pre (i := p.length) (by rw [seenL_len]; omega))
  intro b' o' e
  have hkn := hk.n
  have : (Sl.pre (numSl b (p.length + 1)) 1 p.length).p = some (b', o') := e
  simp [Sl.pre, numSl] at this
  omega

/-- a place of itself: it is not reached, or it is a jump to the next place. -/
def base (p : List Ins) (i : Nat) (x : Ins) : Prop := ¬ Rch p 0 i ∨ (x.op = 3 ∧ x.a = (i : Int) + 1)
end Go.Proofs.Ytolchnaegifckaa.HS
namespace Go.Proofs.Ytolchnaegifckaa.HS
open Go

theorem Nums.keeps {H H' : Heap} {b : Nat} {w : List Int} (h : Nums H b w) (k : Keeps H H') : Nums H' b w := ⟨Nat.lt_of_lt_of_le h.lt k.n, by rw [k.get b h.lt]; exact h.get, h.len⟩
section
variable {α : Type} {Q : α → Heap → Prop} {H : Heap}
end

end Go.Proofs.Ytolchnaegifckaa.HS
