/- What the document's Seen computes. Conditions: none (lemmas). -/
import Derived.Test.YtolchnaegifckaaHREa
import Derived.Test.YtolchnaegifckaaHRDe
namespace Go.Proofs.Ytolchnaegifckaa.HR
open Go

section
variable {α : Type} {Q : α → Heap → Prop} {H : Heap}
theorem wp_gxB {L : List Bool} {e i : Nat} (he : e = i) (hi : i < L.length) {g : HV → M α} (hg : wp (g (.bool L[i])) Q H) : wp (gx (L.map HV.bool) e g) Q H := by
  subst he
  unfold gx
  rw [List.getElem?_map, List.getElem?_eq_getElem hi]; exact hg
end
theorem putN_full {xs ys : List HV} (h : ys.length = xs.length) : putN xs 0 ys = ys := by
  unfold putN
  rw [Nat.zero_add, List.take_zero, List.nil_append, h, List.drop_length, List.append_nil]
theorem count_set_lt : ∀ {L : List Bool} {i : Nat} (hi : i < L.length), L[i] = false → (L.set i true).count false < L.count false
  | x :: L, 0, _, h => by
    simp only [List.getElem_cons_zero] at h; subst h
    simp
  | x :: L, i + 1, hi, h => by
    have := count_set_lt (L := L) (i := i) (by simpa using hi) (by simpa using h)
    simp only [List.set_cons_succ, List.count_cons]
    omega

/-- no step out of L leads to a place that is not in L. -/
def Shut (p : List Ins) (L : List Bool) (i : Nat) (t : Nat) : Prop :=
  ∀ j (hj : j < p.length) k, (j < i ∨ j = i ∧ k < t) → k ≤ p.length → L.getD j false = true → (k : Int) ∈ nextL p[j] j → L.getD k false = true
structure SeenI (p : List Ins) (a : Nat) (L : List Bool) : Prop where
  len : L.length = 49
  ok : ∀ j, L.getD j false = true → Rch p a j
  a : L.getD a false = true
theorem SeenI.set {p : List Ins} {a : Nat} {L : List Bool} (h : SeenI p a L) {k : Nat} (hk : Rch p a k) : SeenI p a (L.set k true) := by
  refine ⟨by rw [List.length_set]; exact h.len, fun j hj => ?_, ?_⟩
  · by_cases e : j = k
    · subst e; exact hk
    · rw [List.getD_eq_getElem?_getD, List.getElem?_set_ne (Ne.symm e), ← List.getD_eq_getElem?_getD] at hj
      exact h.ok j hj
  · by_cases e : a = k
    · subst e
      rw [List.getD_eq_getElem?_getD]
      by_cases hl : a < L.length
      · rw [List.getElem?_set_self hl]; rfl
      · have := h.a
        rw [List.getD_eq_getElem?_getD, List.getElem?_eq_none (by omega)] at this
        cases this
    · rw [List.getD_eq_getElem?_getD, List.getElem?_set_ne (Ne.symm e), ← List.getD_eq_getElem?_getD]; exact h.a
/-- a pass: what changed. -/
structure Pass (p : List Ins) (a : Nat) (L0 L : List Bool) (m : Bool) (i t : Nat) : Prop where
  ok : SeenI p a L
  lt : m = true → L.count false < L0.count false
  eq : m = false → L = L0 ∧ Shut p L0 i t
theorem shut_all {p : List Ins} (hc : CanB p) {a : Nat} {L : List Bool} (h : SeenI p a L) (hs : Shut p L p.length 0) : ∀ j, L.getD j false = true ↔ Rch p a j := by
  intro j
  refine ⟨h.ok j, fun hr => ?_⟩
  induction hr with
  | refl => exact h.a
  | step hi hr hm ih =>
    have := nextL_range hc hi hm
    exact hs _ hi _ (.inl hi) (by omega) ih hm

theorem getD_of {L : List Bool} {j : Nat} (h : j < L.length) : L.getD j false = L[j] := by
  rw [List.getD_eq_getElem?_getD, List.getElem?_eq_getElem h]; rfl
theorem Pass.hit {p : List Ins} {a : Nat} {L0 L : List Bool} {m : Bool} {i t : Nat} (h : Pass p a L0 L m i t) (hi : i < p.length) (h1 : L.getD i false = true) (hm : (t : Int) ∈ nextL p[i] i) (ht : t < L.length) (h2 : L[t] = false) : Pass p a L0 (L.set t true) true i (t + 1) := by
  refine ⟨h.ok.set (.step hi (h.ok.ok _ h1) hm), fun _ => ?_, fun hh => by cases hh⟩
  have := count_set_lt ht h2
  cases m with
  | true => have := h.lt rfl; omega
  | false => obtain ⟨rfl, _⟩ := h.eq rfl; exact this
theorem Pass.miss {p : List Ins} {a : Nat} {L0 L : List Bool} {m : Bool} {i t : Nat} (h : Pass p a L0 L m i t) (hn : ∀ hi : i < p.length, L.getD i false = true → (t : Int) ∈ nextL p[i] i → L.getD t false = true) : Pass p a L0 L m i (t + 1) := by
  refine ⟨h.ok, h.lt, fun hm => ?_⟩
  obtain ⟨rfl, hs⟩ := h.eq hm
  refine ⟨rfl, fun j hj k hlt hk h1 h2 => ?_⟩
  by_cases e : j = i ∧ k = t
  · obtain ⟨rfl, rfl⟩ := e; exact hn hj h1 h2
  · exact hs j hj k (by omega) hk h1 h2
theorem Pass.next {p : List Ins} {a : Nat} {L0 L : List Bool} {m : Bool} {i : Nat} (h : Pass p a L0 L m i (p.length + 1)) : Pass p a L0 L m (i + 1) 0 := by
  refine ⟨h.ok, h.lt, fun hm => ?_⟩
  obtain ⟨rfl, hs⟩ := h.eq hm
  exact ⟨rfl, fun j hj k hlt hk h1 h2 => hs j hj k (by omega) hk h1 h2⟩

theorem ref27_Seen_wp {D : HV → List HV → M HV} {H : Heap} {Q : HV → Heap → Prop} {s : Sl} {p : List Ins} (hs : RProg H s p) (hc : CanB p) {a : Nat} (ha : a ≤ p.length)
    (h : ∀ L : List Bool, L.length = 49 → (∀ j, L.getD j false = true ↔ Rch p a j) → Q (.agg (L.map HV.bool)) H) : wp (f_ref27_Seen D [.sl s, I a]) Q H := by
  unfold f_ref27_Seen
  have hlen := hs.lenI
  have h48 := hc.len
  with_reducible repeat' (first | refine wp_finF ?_ | refine wp_uA ?_ | refine wp_uI ?_ | refine wp_uB ?_ | refine wp_uL ?_ | refine wp_uS ?_ | refine wp_uP ?_ | refine wp_uc ?_ | refine wp_nl ?_ | refine wp_asB ?_ | refine wp_asI ?_ | refine wp_asSl ?_ | refine wp_asT ?_ | refine wp_asA ?_ | refine wp_asS ?_ | refine wp_asP ?_ | refine wp_nN ?_ | refine wp_rN ?_ | refine wp_xN ?_ | refine wp_nB ?_ | refine wp_rB ?_ | refine wp_xB rfl ?_ | refine wp_xB' rfl ?_ | refine wp_bB ?_ | refine wp_rX ?_ | refine wp_xX ?_ | refine wp_rE ?_ | refine wp_xE ?_ | refine wp_rR ?_ | refine wp_xR ?_ | refine wp_r0 ?_ | refine wp_x0 ?_ | refine wp_rF ?_ | refine wp_rF0 ?_ | refine wp_rF2 ?_ | refine wp_rF3 ?_ | refine wp_rF4 ?_ | refine wp_condT ?_ | refine wp_condF ?_ | refine wp_condNT ?_ | refine wp_condNF ?_)
  refine wp_gdD (by omega) (wp_gdD (by omega) (wp_gdD (by simp; omega) (wp_blk ?_)))
  have e0 : List.set (List.replicate 49 (HV.bool false)) (0 + (a : Int).toNat * 1) (.bool true) = ((List.replicate 49 false).set a true).map HV.bool := by
    rw [List.map_set, List.map_replicate]; congr 1; omega
  rw [e0]
  have hI0 : SeenI p a ((List.replicate 49 false).set a true) := by
    refine ⟨by simp, fun j hj => ?_, ?_⟩
    · by_cases e : j = a
      · subst e; exact .refl
      · rw [List.getD_eq_getElem?_getD, List.getElem?_set_ne (Ne.symm e), List.getElem?_replicate] at hj
        split at hj <;> cases hj
    · rw [List.getD_eq_getElem?_getD, List.getElem?_set_self (by simp; omega)]; rfl
  refine wp_loop (fun k vs H' => H' = H ∧ ∃ L m, vs = [.bool m, .agg (L.map HV.bool)] ∧ SeenI p a L ∧ k = L.count false + (if m then 1 else 0) ∧ (m = false → Shut p L p.length 0)) _
    ⟨rfl, _, true, rfl, hI0, rfl, (fun hh => by cases hh)⟩ ?_
  rintro k vs H ⟨rfl, L0, m, rfl, hI, hk, hsh⟩
  refine wp_uB (wp_uA (wp_nl (wp_cond (fun c => ?_) (fun c => ?_))))
  · subst c
    refine wp_blk ?_
    refine wp_loop (fun k vs H' => H' = H ∧ ∃ i L m, k + i = p.length ∧ vs = [.bool m, I (i : Int), .agg (L.map HV.bool)] ∧ Pass p a L0 L m i 0) p.length
      ⟨rfl, 0, L0, false, by omega, rfl, hI, (fun hh => by cases hh), fun _ => ⟨rfl, fun j hj k hlt => by omega⟩⟩ ?_
    rintro k1 vs1 H ⟨rfl, i, L1, m1, hk1, rfl, hp1⟩
    refine wp_uB (wp_uI (wp_uA (wp_nl (wp_condD (fun hi => ?_) (fun hi => ?_)))))
    · have hi' : i < p.length := by omega
      have hwi : wr ((i : Int) + 1) = ((i + 1 : Nat) : Int) := by rw [wr_small (by omega) (by omega)]; rfl
      refine wp_blk ?_
      refine wp_loop (fun k vs H' => H' = H ∧ ∃ t L m, k + t = p.length + 1 ∧ vs = [.bool m, I (t : Int), .agg (L.map HV.bool)] ∧ Pass p a L0 L m i t) (p.length + 1)
        ⟨rfl, 0, L1, m1, by omega, rfl, hp1⟩ ?_
      rintro k2 vs2 H ⟨rfl, t, L2, m2, hk2, rfl, hp2⟩
      refine wp_uB (wp_uI (wp_uA (wp_nl (wp_condD (fun ht => ?_) (fun ht => ?_)))))
      · have ht' : t ≤ p.length := by omega
        have hwt : wr ((t : Int) + 1) = ((t + 1 : Nat) : Int) := by rw [wr_small (by omega) (by omega)]; rfl
        have hL := hp2.ok.len
        refine wp_blk ?_
        have hiL : i < L2.length := by omega
        have htL : t < L2.length := by omega
        have gi := getD_of hiL
        have gt := getD_of htL
        refine wp_jnP (L2.getD i false = true ∧ L2.getD t false = false ∧ (t : Int) ∈ nextL p[i] i) ?_ (fun hh => ?_) (fun hh => ?_)
        · refine wp_gdD (by omega) (wp_gdD (by omega) (wp_gxB (i := i) (by omega) hiL (wp_asB ?_)))
          refine wp_cond (fun c1 => ?_) (fun c1 => ?_)
          · refine wp_gdD (by omega) (wp_gdD (by omega) (wp_gxB (i := t) (by omega) htL (wp_asB ?_)))
            refine wp_condN (fun c2 => ?_) (fun c2 => ?_)
            · refine wp_bnd (ref27_Leads_wp hs (by omega) hi' fun z hz => wp_asB (wp_bB ?_))
              rw [hz, mem_nextL (c_range hc hi') (fun ho => (hc.fwd i hi' ho).1), gi, gt, c1, c2]; simp
            · refine wp_bB ?_
              rw [gt, c2]; simp
          · refine wp_bB ?_
            rw [gi, c1]; simp
        · refine wp_uB (wp_nl (wp_condT ?_))
          refine wp_gdD (by omega) (wp_gdD (by omega) (wp_gdD (by simp; omega) (wp_ret ?_)))
          show wp _ _ _
          have e1 : List.set (L2.map HV.bool) (0 + (t : Int).toNat * 1) (.bool true) = (L2.set t true).map HV.bool := by
            rw [List.map_set]; congr 1; omega
          rw [e1]
          refine wp_uB (wp_uA (wp_nl (wp_ret ?_)))
          rw [hwt]
          exact ⟨k2 - 1, by omega, rfl, t + 1, _, true, by omega, rfl, hp2.hit hi' hh.1 hh.2.2 htL (by rw [← gt]; exact hh.2.1)⟩
        · refine wp_uB (wp_nl (wp_condF (wp_ret ?_)))
          show wp _ _ _
          refine wp_uB (wp_uA (wp_nl (wp_ret ?_)))
          rw [hwt]
          refine ⟨k2 - 1, by omega, rfl, t + 1, _, m2, by omega, rfl, hp2.miss fun _ q1 q2 => ?_⟩
          cases hq : L2.getD t false with
          | true => rfl
          | false => exact absurd ⟨q1, hq, q2⟩ hh
      · have : t = p.length + 1 := by omega
        subst this
        refine wp_ret ?_
        show wp _ _ _
        refine wp_uB (wp_uA (wp_nl (wp_ret ?_)))
        rw [hwi]
        exact ⟨k1 - 1, by omega, rfl, i + 1, _, m2, by omega, rfl, hp2.next⟩
    · have : i = p.length := by omega
      subst this
      refine wp_ret ?_
      show wp _ _ _
      refine wp_uB (wp_uA (wp_nl (wp_ret ?_)))
      refine ⟨L1.count false + (if m1 then 1 else 0), ?_, rfl, L1, m1, rfl, hp1.ok, rfl, fun hm => ?_⟩
      · rw [hk]
        cases m1 with
        | true => have := hp1.lt rfl; simp; omega
        | false => obtain ⟨rfl, _⟩ := hp1.eq rfl; simp
      · obtain ⟨rfl, q⟩ := hp1.eq hm; exact q
  · subst c
    refine wp_ret ?_
    show wp _ _ _
    have hL := hI.len
    have hm49 : (L0.map HV.bool).length = 49 := by simpa using hL
    refine wp_uA (wp_nl (wp_gxAll hm49 ?_))
    refine wp_gd (by rw [hm49]; rfl) (wp_gd (by rw [hm49]; simp) ?_)
    rw [putN_full (by rw [hm49]; simp)]
    refine wp_gxAll hm49 (wp_rF ?_)
    exact h L0 hL (shut_all hc hI (hsh rfl))
end Go.Proofs.Ytolchnaegifckaa.HR
namespace Go.Proofs.Ytolchnaegifckaa.HR
open Go

noncomputable def reachL (p : List Ins) : List Bool := (seenL p 0).take p.length
theorem reachL_len (p : List Ins) : (reachL p).length = p.length := by simp [reachL, seenL_len]
theorem reachL_get {p : List Ins} {j : Nat} (hj : j < (reachL p).length) : (reachL p)[j] = true ↔ Rch p 0 j := by
  have hj2 : j < (seenL p 0).length := by rw [reachL_len] at hj; rw [seenL_len]; omega
  rw [← seenL_get hj2]
  simp only [reachL, List.getElem_take]
theorem bound_Reach_wp {D : HV → List HV → M HV} {H : Heap} {Q : HV → Heap → Prop} {s : Sl} {p : List Ins} (hs : RProg H s p) (hf : ∀ x ∈ p, IFit x) (hc : CanB p)
    (h : ∀ s' H', Keeps H H' → (∀ b o, s'.p = some (b, o) → H.n ≤ b) → RBools H' s' (reachL p) → Q (.sl s') H') : wp (f_bound_Reach D [.sl s]) Q H := by
  unfold f_bound_Reach
  have hlen := hs.lenI
  have h48 := hc.len
  with_reducible repeat' (first | refine wp_finF ?_ | refine wp_uA ?_ | refine wp_uI ?_ | refine wp_uB ?_ | refine wp_uL ?_ | refine wp_uS ?_ | refine wp_uP ?_ | refine wp_uc ?_ | refine wp_nl ?_ | refine wp_asB ?_ | refine wp_asI ?_ | refine wp_asSl ?_ | refine wp_asT ?_ | refine wp_asA ?_ | refine wp_asS ?_ | refine wp_asP ?_ | refine wp_nN ?_ | refine wp_rN ?_ | refine wp_xN ?_ | refine wp_nB ?_ | refine wp_rB ?_ | refine wp_xB rfl ?_ | refine wp_xB' rfl ?_ | refine wp_bB ?_ | refine wp_rX ?_ | refine wp_xX ?_ | refine wp_rE ?_ | refine wp_xE ?_ | refine wp_rR ?_ | refine wp_xR ?_ | refine wp_r0 ?_ | refine wp_x0 ?_ | refine wp_rF ?_ | refine wp_rF0 ?_ | refine wp_rF2 ?_ | refine wp_rF3 ?_ | refine wp_rF4 ?_ | refine wp_condT ?_ | refine wp_condF ?_ | refine wp_condNT ?_ | refine wp_condNF ?_)
  refine wp_bnd (bound_can_wp hs hf fun z H1 hk hz => wp_asB ?_)
  have hzt : z = true := hz.2 hc
  subst hzt
  refine wp_condNT (wp_bnd (bound_seen_wp (hs.keeps hk) hc (Nat.zero_le _) fun b H2 hk2 hb hB => wp_asSl ?_))
  have hR := hB.rows
  rw [seenL_len] at hR
  have hR' : SlR H2 (numSl b (p.length + 1)) 1 ((seenL p 0).map fun x => [HV.bool x]) := hR
  rw [hlen]
  refine wp_slice_pre hR' (i := p.length) (by simp [seenL_len]) (wp_rF ?_)
  refine h _ _ (hk.trans hk2) ?_ (hR.pre (i := p.length) (by rw [seenL_len]; omega))
  intro b' o' e
  have hkn := hk.n
  have : (Sl.pre (numSl b (p.length + 1)) 1 p.length).p = some (b', o') := e
  simp [Sl.pre, numSl] at this
  omega

/-- a place of itself: it is not reached, or it is a jump to the next place. -/
def base (p : List Ins) (i : Nat) (x : Ins) : Prop := ¬ Rch p 0 i ∨ (x.op = 3 ∧ x.a = (i : Int) + 1)
def idleP (p : List Ins) (i : Nat) : Prop := match p[i]? with
  | some x => if x.op = 5 then ¬ Rch p 0 (opn p i).toNat else base p i x
  | none => False
noncomputable def idleL (p : List Ins) : List Bool := (List.range p.length).map fun j => open Classical in decide (idleP p j)
theorem idleL_len (p : List Ins) : (idleL p).length = p.length := by simp [idleL]
theorem idleL_get {p : List Ins} {j : Nat} (hj : j < (idleL p).length) : (idleL p)[j] = true ↔ idleP p j := by simp [idleL]
theorem idleP_eq {p : List Ins} {i : Nat} (hi : i < p.length) : idleP p i ↔ if (p[i]).op = 5 then ¬ Rch p 0 (opn p i).toNat else base p i p[i] := by
  unfold idleP; rw [List.getElem?_eq_getElem hi]
theorem opn_nxt {p : List Ins} {i : Nat} (hi : i < p.length) : opn p (i + 1) = if (p[i]).op = 4 then (i : Int) else if (p[i]).op = 5 then -1 else opn p i := by
  simp only [opn, List.getElem?_eq_getElem hi]
/-- what stands at an open Begin. -/
theorem opn_begin {p : List Ins} : ∀ {i : Nat}, i ≤ p.length → 0 ≤ opn p i → ∃ _ : (opn p i).toNat < i, ∃ h2 : (opn p i).toNat < p.length, (p[(opn p i).toNat]).op = 4
  | 0, _, ho => by simp [opn] at ho
  | i + 1, hi, h => by
    have hi' : i < p.length := hi
    rw [opn_nxt hi'] at h
    rw [opn_nxt hi']
    split
    · rename_i h4; simpa using ⟨hi', h4⟩
    · rename_i h4
      rw [if_neg h4] at h
      split
      · rename_i h5; rw [if_pos h5] at h; omega
      · rename_i h5; rw [if_neg h5] at h
        obtain ⟨a, b, c⟩ := opn_begin (by omega) h
        exact ⟨by omega, b, c⟩
theorem CanB.end_in {p : List Ins} (hc : CanB p) {i : Nat} (hi : i < p.length) (h5 : (p[i]).op = 5) : 0 ≤ opn p i := by
  have hg := (good_iff hc.shaped hi).2 (hc.one i hi)
  exact hg.2.1.2 (by omega)

theorem trim_idle_wp {D : HV → List HV → M HV} {H : Heap} {Q : HV → Heap → Prop} {s : Sl} {p : List Ins} (hs : RProg H s p) (hf : ∀ x ∈ p, IFit x) (hc : CanB p)
    (h : ∀ b H', Keeps H H' → H.n ≤ b → Bools H' b (idleL p) → Q (.sl (numSl b p.length)) H') : wp (f_trim_idle D [.sl s]) Q H := by
  unfold f_trim_idle
  have h48 := hc.len
  with_reducible repeat' (first | refine wp_finF ?_ | refine wp_uA ?_ | refine wp_uI ?_ | refine wp_uB ?_ | refine wp_uL ?_ | refine wp_uS ?_ | refine wp_uP ?_ | refine wp_uc ?_ | refine wp_nl ?_ | refine wp_asB ?_ | refine wp_asI ?_ | refine wp_asSl ?_ | refine wp_asT ?_ | refine wp_asA ?_ | refine wp_asS ?_ | refine wp_asP ?_ | refine wp_nN ?_ | refine wp_rN ?_ | refine wp_xN ?_ | refine wp_nB ?_ | refine wp_rB ?_ | refine wp_xB rfl ?_ | refine wp_xB' rfl ?_ | refine wp_bB ?_ | refine wp_rX ?_ | refine wp_xX ?_ | refine wp_rE ?_ | refine wp_xE ?_ | refine wp_rR ?_ | refine wp_xR ?_ | refine wp_r0 ?_ | refine wp_x0 ?_ | refine wp_rF ?_ | refine wp_rF0 ?_ | refine wp_rF2 ?_ | refine wp_rF3 ?_ | refine wp_rF4 ?_ | refine wp_condT ?_ | refine wp_condF ?_ | refine wp_condNT ?_ | refine wp_condNF ?_)
  refine wp_bnd (bound_Reach_wp hs hf hc fun s' H1 hk1 hnew hr => wp_asSl ?_)
  have hl1 := hr.lenI
  rw [reachL_len] at hl1
  rw [hl1]
  refine wp_gdD (by omega) (wp_gdD (by omega) (wp_gdD (by unfold room; omega) (wp_nw ?_)))
  rw [Int.toNat_natCast]
  have hk0 := Keeps.push H1 (.cells (repL p.length [.bool false]) false)
  have hb0 : Bools (H1.push (.cells (repL p.length [.bool false]) false)) H1.n (List.replicate p.length false) := Bools.new (by omega)
  have hr0 := hr.keeps hk0
  have hn01 := hk1.n
  have hnb : ∀ b o, s'.p = some (b, o) → ¬ (b = H1.n) := by
    intro b o e hh
    have hr' : SlR H1 s' 1 ((reachL p).map fun x => [HV.bool x]) := hr
    rcases hr'.mem with ⟨h1, _⟩ | ⟨b2, o2, _, _, h1, h2, _⟩
    · rw [h1] at e; cases e
    · rw [h1] at e; cases e; omega
  generalize H1.push (.cells (repL p.length [.bool false]) false) = H2 at hk0 hb0 hr0
  generalize hB : H1.n = b at hk0 hb0 hnb hn01
  have hbn : H.n ≤ b := hn01
  have hkH : Keeps H H2 := hk1.trans hk0
  refine wp_blk ?_
  refine wp_loop (fun k vs H' => ∃ i o bs, k + i = p.length ∧ vs = [I o, I (i : Int)] ∧ bs.length = p.length ∧ Keeps H H' ∧ Bools H' b bs ∧ RBools H' s' (reachL p) ∧ (0 ≤ opn p i → o = opn p i) ∧ ∀ j (hj : j < bs.length), j < i → (bs[j] = true ↔ idleP p j)) p.length
    ⟨0, 0, _, by omega, rfl, by simp, hkH, hb0, hr0, (by simp [opn]), fun j _ hj => by omega⟩ ?_
  rintro k vs H3 ⟨i, o, bs, hki, rfl, hbl, hk3, hb3, hr3, ho, hbs⟩
  have hs3 := hs.keeps hk3
  refine wp_uI (wp_uI (wp_nl (wp_condD (fun hi => ?_) (fun hi => ?_))))
  · have hi' : i < p.length := by omega
    have hiR : i < (reachL p).length := by rw [reachL_len]; exact hi'
    have hw : wr ((i : Int) + 1) = ((i + 1 : Nat) : Int) := by rw [wr_small (by omega) (by omega)]; rfl
    refine wp_blk ?_
    refine wp_atB hr3 hiR fun _ _ => wp_asB ?_
    have hg := reachL_get hiR
    refine wp_jn (wp.mono (Q := fun lf H' => lf = Leaf.norm [] ∧ ∃ bs', bs'.length = p.length ∧ Keeps H H' ∧ Bools H' b bs' ∧ RBools H' s' (reachL p) ∧ (∀ j (hj : j < bs'.length), j < i → (bs'[j] = true ↔ idleP p j)) ∧ ∀ (hj : i < bs'.length), bs'[i] = true ↔ base p i p[i]) ?_ ?_)
    · have fin : ∀ v : Bool, (v = true ↔ base p i p[i]) → wp (ix ⟨some (b, 0), p.length, p.length, none⟩ (i : Int) 1 fun b o => stC b o (.bool v) (ret (Leaf.norm []))) (fun lf H' => lf = Leaf.norm [] ∧ ∃ bs', bs'.length = p.length ∧ Keeps H H' ∧ Bools H' b bs' ∧ RBools H' s' (reachL p) ∧ (∀ j (hj : j < bs'.length), j < i → (bs'[j] = true ↔ idleP p j)) ∧ ∀ (hj : i < bs'.length), bs'[i] = true ↔ base p i p[i]) H3 := by
        intro v hv
        refine wp_boolset hb3 (by rw [hbl]; rfl) (by omega) fun hb4 => wp_ret ⟨rfl, bs.set i v, by simpa using hbl, hk3.set hbn _, hb4, hr3.but ((But.refl (fun x => x = b) H3).set (b := b) rfl _) hnb, fun j hj hji => ?_, fun hj => ?_⟩
        · rw [List.getElem_set, if_neg (by omega)]; exact hbs j (by simpa using hj) hji
        · rw [List.getElem_set, if_pos rfl]; exact hv
      refine wp_condN (fun c => ?_) (fun c => ?_)
      · refine fin true ⟨fun _ => .inl (fun hh => ?_), fun _ => rfl⟩
        rw [hg.2 hh] at c; cases c
      · have hyes := hg.1 c
        refine wp_atF hs3 hi' (k := 0) (v := I (p[i]).op) rfl fun _ _ => wp_asI ?_
        refine wp_condE (fun h3 => ?_) (fun h3 => ?_)
        · refine wp_atF hs3 hi' (k := 1) (v := I (p[i]).a) rfl fun _ _ => wp_asI ?_
          refine fin _ ?_
          rw [hw]
          unfold base
          simp [hyes, h3]
        · refine fin false ?_
          unfold base
          simp [hyes, h3]
    · rintro _ H4 ⟨rfl, bs', hbl', hk4, hb4, hr4, hbs', hbi⟩
      show wp _ _ _
      have hs4 := hs.keeps hk4
      have hiB : i < bs'.length := by omega
      refine wp_nl (wp_atF hs4 hi' (k := 0) (v := I (p[i]).op) rfl fun _ _ => wp_asI ?_)
      have hos := opn_nxt hi'
      refine wp_condE (fun h4 => ?_) (fun h4 => wp_condE (fun h5 => ?_) (fun h5 => ?_))
      · refine wp_ret ?_
        show wp _ _ _
        refine wp_uI (wp_nl (wp_ret ?_))
        rw [hw]
        refine ⟨k - 1, by omega, i + 1, _, bs', by omega, rfl, hbl', hk4, hb4, hr4, fun _ => by rw [hos, if_pos h4], fun j hj hji => ?_⟩
        by_cases e : j = i
        · subst e; rw [hbi hj, idleP_eq hi', if_neg (by omega)]
        · exact hbs' j hj (by omega)
      · have hop := hc.end_in hi' h5
        obtain ⟨q1, q2, q4⟩ := opn_begin (by omega) hop
        have hoe : o = ((opn p i).toNat : Int) := by rw [ho hop]; omega
        rw [hoe]
        refine wp_boolget hb4 (by rw [hbl']; rfl) (by omega) fun _ _ => wp_asB ?_
        refine wp_boolset hb4 (by rw [hbl']; rfl) hiB fun hb5 => wp_ret ?_
        show wp _ _ _
        refine wp_uI (wp_nl (wp_ret ?_))
        rw [hw]
        refine ⟨k - 1, by omega, i + 1, _, bs'.set i _, by omega, rfl, by simpa using hbl', hk4.set hbn _, hb5, hr4.but ((But.refl (fun x => x = b) H4).set (b := b) rfl _) hnb, fun hh => ?_, fun j hj hji => ?_⟩
        · rw [hos, if_neg h4, if_pos h5] at hh; omega
        · rw [List.getElem_set]
          split
          · rename_i e; subst e
            rw [idleP_eq hi', if_pos h5, hbs' _ (by omega) q1, idleP_eq q2, if_neg (by omega)]
            unfold base
            simp [q4]
          · rename_i e
            exact hbs' j (by simpa using hj) (by omega)
      · refine wp_ret ?_
        show wp _ _ _
        refine wp_uI (wp_nl (wp_ret ?_))
        rw [hw]
        refine ⟨k - 1, by omega, i + 1, _, bs', by omega, rfl, hbl', hk4, hb4, hr4, fun hh => ?_, fun j hj hji => ?_⟩
        · rw [hos, if_neg h4, if_neg h5] at hh ⊢; exact ho hh
        by_cases e : j = i
        · subst e; rw [hbi hj, idleP_eq hi', if_neg h5]
        · exact hbs' j hj (by omega)
  · have : i = p.length := by omega
    subst this
    refine wp_ret ?_
    show wp _ _ _
    refine wp_nl (wp_rF ?_)
    refine h _ _ hk3 hbn ?_
    have : bs = idleL p := by
      refine List.ext_getElem (by rw [hbl, idleL_len]) fun j h1 h2 => ?_
      rw [Bool.eq_iff_iff, hbs j h1 (by omega), idleL_get h2]
    rw [← this]; exact hb3
end Go.Proofs.Ytolchnaegifckaa.HR
namespace Go.Proofs.Ytolchnaegifckaa.HR
open Go

theorem getD_set_self {L : List Bool} {i : Nat} (h : i < L.length) (v : Bool) : (L.set i v).getD i false = v := by
  rw [List.getD_eq_getElem?_getD, List.getElem?_set_self h]; rfl
theorem getD_set_ne {L : List Bool} {i j : Nat} (h : j ≠ i) (v : Bool) : (L.set i v).getD j false = L.getD j false := by
  rw [List.getD_eq_getElem?_getD, List.getElem?_set_ne (Ne.symm h), ← List.getD_eq_getElem?_getD]
end Go.Proofs.Ytolchnaegifckaa.HR
namespace Go.Proofs.Ytolchnaegifckaa.HR
open Go

/-- how many are left ahead of a place. -/
def keptN (bs : List Bool) (i : Nat) : Nat := (bs.take i).count false
theorem keptN_zero (bs : List Bool) : keptN bs 0 = 0 := by simp [keptN]
theorem keptN_succ {bs : List Bool} {i : Nat} (hi : i < bs.length) : keptN bs (i + 1) = keptN bs i + (if bs[i] then 0 else 1) := by
  unfold keptN
  rw [List.take_succ_eq_append_getElem hi, List.count_append]
  cases bs[i] <;> simp
theorem keptN_le (bs : List Bool) (i : Nat) : keptN bs i ≤ i := by
  unfold keptN
  exact Nat.le_trans List.count_le_length (by rw [List.length_take]; omega)
theorem Nums.keeps {H H' : Heap} {b : Nat} {w : List Int} (h : Nums H b w) (k : Keeps H H') : Nums H' b w := ⟨Nat.lt_of_lt_of_le h.lt k.n, by rw [k.get b h.lt]; exact h.get, h.len⟩
theorem Nums.new0 {H : Heap} {n : Nat} (hn : n ≤ 9223372036854775807) : Nums (H.push (.cells (repL n [I 0]) false)) H.n (List.replicate n 0) :=
  ⟨by simp [Heap.push], by simp [Heap.push, repL_one], by simpa using hn⟩
section
variable {α : Type} {Q : α → Heap → Prop} {H : Heap}
theorem wp_numgetN {b : Nat} {w : List Int} (h : Nums H b w) {s : Sl} (hs : s = numSl b w.length) {i : Nat} (hi : i < w.length) {g : Nat → Nat → HV → M α} (hg : ∀ b o, wp (g b o (I w[i])) Q H) :
    wp (ix s (i : Int) 1 fun b o => ldC b o fun c => g b o c) Q H := by
  subst hs
  exact wp_atI h.rints hi hg
theorem wp_numsetN {b : Nat} {w : List Int} (h : Nums H b w) {s : Sl} (hs : s = numSl b w.length) {i : Nat} (hi : i < w.length) {v : Int} {m : M α}
    (hm : Nums (H.set b (.cells ((w.map I).set i (I v)) false)) b (w.set i v) → wp m Q (H.set b (.cells ((w.map I).set i (I v)) false))) :
    wp (ix s (i : Int) 1 fun b o => stC b o (I v) m) Q H :=
  wp_numset h hs (i := (i : Int)) (by omega) (by simpa using hi) (by simpa using hm)
end

theorem trim_places_wp {D : HV → List HV → M HV} {H : Heap} {Q : HV → Heap → Prop} {t : Sl} {bs : List Bool} (ht : RBools H t bs) (hn : bs.length ≤ 1000)
    (h : ∀ b H' (w : List Int), Keeps H H' → H.n ≤ b → w.length = bs.length + 1 → (∀ j, j ≤ bs.length → w[j]? = some (keptN bs j : Int)) → Nums H' b w → Q (.sl (numSl b w.length)) H') : wp (f_trim_places D [.sl t]) Q H := by
  unfold f_trim_places
  have hlen := ht.lenI
  have h1 : wr ((t.len : Int) + 1) = ((bs.length + 1 : Nat) : Int) := by rw [hlen, wr_small (by omega) (by omega)]; rfl
  with_reducible repeat' (first | refine wp_finF ?_ | refine wp_uA ?_ | refine wp_uI ?_ | refine wp_uB ?_ | refine wp_uL ?_ | refine wp_uS ?_ | refine wp_uP ?_ | refine wp_uc ?_ | refine wp_nl ?_ | refine wp_asB ?_ | refine wp_asI ?_ | refine wp_asSl ?_ | refine wp_asT ?_ | refine wp_asA ?_ | refine wp_asS ?_ | refine wp_asP ?_ | refine wp_nN ?_ | refine wp_rN ?_ | refine wp_xN ?_ | refine wp_nB ?_ | refine wp_rB ?_ | refine wp_xB rfl ?_ | refine wp_xB' rfl ?_ | refine wp_bB ?_ | refine wp_rX ?_ | refine wp_xX ?_ | refine wp_rE ?_ | refine wp_xE ?_ | refine wp_rR ?_ | refine wp_xR ?_ | refine wp_r0 ?_ | refine wp_x0 ?_ | refine wp_rF ?_ | refine wp_rF0 ?_ | refine wp_rF2 ?_ | refine wp_rF3 ?_ | refine wp_rF4 ?_ | refine wp_condT ?_ | refine wp_condF ?_ | refine wp_condNT ?_ | refine wp_condNF ?_)
  rw [h1]
  refine wp_gdD (by omega) (wp_gdD (by omega) (wp_gdD (by unfold room; omega) (wp_nw ?_)))
  rw [Int.toNat_natCast]
  have hk0 := Keeps.push H (.cells (repL (bs.length + 1) [I 0]) false)
  have hb0 : Nums (H.push (.cells (repL (bs.length + 1) [I 0]) false)) H.n (List.replicate (bs.length + 1) 0) := Nums.new0 (by omega)
  have hnb : ∀ b o, t.p = some (b, o) → ¬ (b = H.n) := by
    intro b o e hh
    have ht' : SlR H t 1 (bs.map fun x => [HV.bool x]) := ht
    rcases ht'.mem with ⟨q1, _⟩ | ⟨b2, o2, _, _, q1, q2, _⟩
    · rw [q1] at e; cases e
    · rw [q1] at e; cases e; omega
  have ht0 := ht.keeps hk0
  generalize H.push (.cells (repL (bs.length + 1) [I 0]) false) = H0 at hk0 hb0 ht0
  refine wp_blk ?_
  refine wp_loop (fun k vs H' => ∃ (i : Nat) (w : List Int), k + i = bs.length ∧ vs = [I (i : Int)] ∧ w.length = bs.length + 1 ∧ Keeps H H' ∧ Nums H' H.n w ∧ RBools H' t bs ∧ ∀ j, j ≤ i → w[j]? = some (keptN bs j : Int)) bs.length
    ⟨0, _, by omega, rfl, by simp, hk0, hb0, ht0, fun j hj => ?_⟩ ?_
  · have : j = 0 := by omega
    subst this
    rw [keptN_zero]; simp
  rintro k vs H1 ⟨i, w, hki, rfl, hwl, hk1, hb1, ht1, hws⟩
  refine wp_uI (wp_nl (wp_condD (fun hi => ?_) (fun hi => ?_)))
  · have hi' : i < bs.length := by omega
    have hw : wr ((i : Int) + 1) = ((i + 1 : Nat) : Int) := by rw [wr_small (by omega) (by omega)]; rfl
    rw [hw]
    have hkl := keptN_le bs i
    refine wp_blk ?_
    refine wp_atB ht1 hi' fun _ _ => wp_asB ?_
    refine wp_numgetN hb1 (by rw [hwl]; rfl) (i := i) (by omega) fun _ _ => wp_asI ?_
    have hwi : w[i]'(by omega) = (keptN bs i : Int) := by
      have := hws i (Nat.le_refl _)
      rw [List.getElem?_eq_getElem (by omega)] at this
      exact Option.some.inj this
    rw [hwi]
    refine wp_numsetN hb1 (by rw [hwl]; rfl) (i := i + 1) (by omega) fun hb2 => ?_
    have hk2 := hk1.set (b := H.n) (Nat.le_refl _) (.cells ((w.map I).set (i + 1) (I (keptN bs i : Int))) false)
    have ht2 := ht1.but ((But.refl (fun x => x = H.n) H1).set (b := H.n) rfl (.cells ((w.map I).set (i + 1) (I (keptN bs i : Int))) false)) hnb
    generalize H1.set H.n (.cells ((w.map I).set (i + 1) (I (keptN bs i : Int))) false) = H2 at hb2 hk2 ht2
    have hws2 : ∀ j, j ≤ i → (w.set (i + 1) (keptN bs i : Int))[j]? = some (keptN bs j : Int) := fun j hj => by
      rw [List.getElem?_set_ne (by omega)]; exact hws j hj
    have hs1 : (w.set (i + 1) (keptN bs i : Int))[i + 1]? = some (keptN bs i : Int) := List.getElem?_set_self (by omega)
    have hl2 : (w.set (i + 1) (keptN bs i : Int)).length = bs.length + 1 := by simpa using hwl
    generalize w.set (i + 1) (keptN bs i : Int) = w2 at hb2 hws2 hs1 hl2
    refine wp_condN (fun c => ?_) (fun c => ?_)
    · refine wp_numgetN hb2 (by rw [hl2]; rfl) (i := i + 1) (by omega) fun _ _ => wp_asI ?_
      have hwi2 : w2[i + 1]'(by omega) = (keptN bs i : Int) := by
        rw [List.getElem?_eq_getElem (by omega)] at hs1
        exact Option.some.inj hs1
      rw [hwi2, wr_small (by omega) (by omega)]
      refine wp_numsetN hb2 (by rw [hl2]; rfl) (i := i + 1) (by omega) fun hb3 => wp_ret ?_
      show wp _ _ _
      refine wp_nl (wp_ret ?_)
      refine ⟨k - 1, by omega, i + 1, _, by omega, rfl, by simpa using hl2, hk2.set (Nat.le_refl _) _, hb3, ht2.but ((But.refl (fun x => x = H.n) H2).set (b := H.n) rfl _) hnb, fun j hj => ?_⟩
      by_cases e : j = i + 1
      · subst e
        rw [List.getElem?_set_self (by omega), keptN_succ hi', c]; simp
      · rw [List.getElem?_set_ne (by omega)]; exact hws2 j (by omega)
    · refine wp_ret ?_
      show wp _ _ _
      refine wp_nl (wp_ret ?_)
      refine ⟨k - 1, by omega, i + 1, _, by omega, rfl, hl2, hk2, hb2, ht2, fun j hj => ?_⟩
      by_cases e : j = i + 1
      · subst e
        rw [hs1, keptN_succ hi', c]; simp
      · exact hws2 j (by omega)
  · have : i = bs.length := by omega
    subst this
    refine wp_ret ?_
    show wp _ _ _
    refine wp_nl (wp_rF ?_)
    have := h H.n H1 w hk1 (Nat.le_refl _) hwl hws hb1
    rw [hwl] at this; exact this
end Go.Proofs.Ytolchnaegifckaa.HR
