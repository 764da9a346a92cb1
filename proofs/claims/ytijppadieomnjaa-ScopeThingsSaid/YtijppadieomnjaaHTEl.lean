/- A program with its idle places taken out can be; where nothing goes, nothing is idle, and it is the same. Conditions: the program can be (plain lemmas). -/
import Derived.Test.YtijppadieomnjaaHTEj
namespace Go.Proofs.Ytijppadieomnjaa.HT
open Go

/-- the place that a place has then. -/
noncomputable abbrev kp (p : List Ins) (i : Nat) : Nat := keptN (idleL p) i
theorem kp_le (p : List Ins) (i : Nat) : kp p i ≤ i := keptN_le _ _
theorem kp_zero (p : List Ins) : kp p 0 = 0 := keptN_zero _
theorem trimG_kp (p : List Ins) {i : Nat} (hi : i ≤ p.length) : (trimG (idleL p) p i).length = kp p i := trimG_len (idleL_len p) hi
theorem kp_idle {p : List Ins} {i : Nat} (hi : i < p.length) (h : idleP p i) : kp p (i + 1) = kp p i := by
  have hl : i < (idleL p).length := by rw [idleL_len]; exact hi
  show keptN _ _ = keptN _ _
  rw [keptN_succ hl, (idleL_get hl).2 h]; simp
theorem kp_kept {p : List Ins} {i : Nat} (hi : i < p.length) (h : ¬ idleP p i) : kp p (i + 1) = kp p i + 1 := by
  have hl : i < (idleL p).length := by rw [idleL_len]; exact hi
  show keptN _ _ = keptN _ _ + 1
  have : (idleL p)[i] = false := by
    cases hh : (idleL p)[i]
    · rfl
    · exact absurd ((idleL_get hl).1 hh) h
  rw [keptN_succ hl, this]; simp
theorem kp_step {p : List Ins} {i : Nat} (hi : i < p.length) : kp p i ≤ kp p (i + 1) := by
  by_cases h : idleP p i
  · rw [kp_idle hi h]; exact Nat.le_refl _
  · rw [kp_kept hi h]; omega
theorem kp_mono {p : List Ins} {i : Nat} : ∀ {j : Nat}, i ≤ j → j ≤ p.length → kp p i ≤ kp p j
  | 0, h, _ => by have : i = 0 := by omega
                  subst this; exact Nat.le_refl _
  | j + 1, h, hj => by
    by_cases e : i = j + 1
    · subst e; exact Nat.le_refl _
    · exact Nat.le_trans (kp_mono (by omega) (by omega)) (kp_step hj)
theorem kp_lt {p : List Ins} {i j : Nat} (hi : i < j) (hj : j ≤ p.length) (h : ¬ idleP p i) : kp p i < kp p j := by
  have h1 := kp_kept (p := p) (i := i) (by omega) h
  have h2 := kp_mono (p := p) (i := i + 1) (j := j) hi hj
  omega
theorem trim1_len (p : List Ins) : (trim1 p).length = kp p p.length := trimG_len (idleL_len p) (Nat.le_refl _)
theorem idl_getD {p : List Ins} {i : Nat} (hi : i < p.length) : (idleL p).getD i false = true ↔ idleP p i := by
  have hl : i < (idleL p).length := by rw [idleL_len]; exact hi
  rw [getD_of hl, idleL_get hl]
theorem trimG_get {p : List Ins} {i : Nat} (hi : i < p.length) (h : ¬ idleP p i) : ∀ n, i < n → n ≤ p.length → (trimG (idleL p) p n)[kp p i]? = some (movedI (idleL p) p[i])
  | 0, h1, _ => by omega
  | n + 1, h1, h2 => by
    have hn : n < p.length := h2
    have hl := trimG_kp p (i := n) (by omega)
    rw [trimG_succ hn]
    by_cases e : i = n
    · subst e
      have : (idleL p).getD i false = false := by
        cases hh : (idleL p).getD i false
        · rfl
        · exact absurd ((idl_getD hi).1 hh) h
      rw [this, List.getElem?_append_right (by omega), hl]
      simp
    · have hlt := kp_lt (p := p) (i := i) (j := n) (by omega) (by omega) h
      rw [List.getElem?_append_left (by omega)]
      exact trimG_get hi h n (by omega) (by omega)
theorem trim1_at {p : List Ins} {i : Nat} (hi : i < p.length) (h : ¬ idleP p i) : (trim1 p)[kp p i]? = some (movedI (idleL p) p[i]) := trimG_get hi h _ hi (Nat.le_refl _)
/-- each place left over was one. -/
theorem kp_inv {p : List Ins} {j : Nat} : ∀ n, n ≤ p.length → j < kp p n → ∃ i, ∃ _hi : i < p.length, i < n ∧ ¬ idleP p i ∧ kp p i = j
  | 0, _, h => by have := kp_zero p; omega
  | n + 1, hn, h => by
    have hn' : n < p.length := hn
    by_cases hid : idleP p n
    · rw [kp_idle hn' hid] at h
      obtain ⟨i, hi, h1, h2, h3⟩ := kp_inv (p := p) (j := j) n (by omega) h
      exact ⟨i, hi, by omega, h2, h3⟩
    · rw [kp_kept hn' hid] at h
      by_cases e : kp p n = j
      · exact ⟨n, hn', by omega, hid, e⟩
      · obtain ⟨i, hi, h1, h2, h3⟩ := kp_inv (p := p) (j := j) n (by omega) (by omega)
        exact ⟨i, hi, by omega, h2, h3⟩
theorem trim1_inv {p : List Ins} {j : Nat} (hj : j < (trim1 p).length) : ∃ i, ∃ hi : i < p.length, ¬ idleP p i ∧ kp p i = j ∧ (trim1 p)[j] = movedI (idleL p) p[i] := by
  rw [trim1_len] at hj
  obtain ⟨i, hi, _, h2, h3⟩ := kp_inv p.length (Nat.le_refl _) hj
  refine ⟨i, hi, h2, h3, ?_⟩
  have := trim1_at hi h2
  rw [h3] at this
  exact (List.getElem?_eq_some_iff.1 this).2

theorem movedI_op (bs : List Bool) (x : Ins) : (movedI bs x).op = x.op ∧ (movedI bs x).b = x.b ∧ (movedI bs x).c = x.c := by
  unfold movedI; split <;> exact ⟨rfl, rfl, rfl⟩
theorem idle_begin {p : List Ins} {i : Nat} (hi : i < p.length) (h4 : (p[i]).op = 4) : idleP p i ↔ ¬ Rch p 0 i := by
  rw [idleP_eq hi, if_neg (by omega)]; unfold base; simp [h4]
theorem idle_end {p : List Ins} {i : Nat} (hi : i < p.length) (h5 : (p[i]).op = 5) : idleP p i ↔ ¬ Rch p 0 (opn p i).toNat := by
  rw [idleP_eq hi, if_pos h5]
theorem kept_rch {p : List Ins} {i : Nat} (hi : i < p.length) (h5 : (p[i]).op ≠ 5) (h : ¬ idleP p i) : Rch p 0 i := by
  rw [idleP_eq hi, if_neg h5] at h
  unfold base at h
  exact Classical.byContradiction fun hh => h (.inl hh)

/-- open blocks behind trimming. -/
theorem opn_trim {p : List Ins} (hc : CanB p) : ∀ i, i ≤ p.length →
    (0 ≤ opn p i → Rch p 0 (opn p i).toNat → opn (trim1 p) (kp p i) = (kp p (opn p i).toNat : Int)) ∧
    (¬ (0 ≤ opn p i ∧ Rch p 0 (opn p i).toNat) → opn (trim1 p) (kp p i) = -1)
  | 0, _ => by
    have h0 : kp p 0 = 0 := keptN_zero _
    rw [h0]
    exact ⟨fun h => by simp [opn] at h, fun _ => rfl⟩
  | i + 1, hi => by
    have hi' : i < p.length := hi
    obtain ⟨ih1, ih2⟩ := opn_trim hc i (by omega)
    have hsh := hc.shaped.1 i hi'
    by_cases hid : idleP p i
    · rw [kp_idle hi' hid]
      by_cases h4 : (p[i]).op = 4
      · rw [opn_nxt hi', if_pos h4]
        have hn := (idle_begin hi' h4).1 hid
        exact ⟨fun _ hr => absurd (by simpa using hr) hn, fun _ => ih2 fun ⟨h, _⟩ => by have := hsh.1 h4; omega⟩
      · by_cases h5 : (p[i]).op = 5
        · rw [opn_nxt hi', if_neg h4, if_pos h5]
          have hn := (idle_end hi' h5).1 hid
          exact ⟨fun h => by omega, fun _ => ih2 fun ⟨_, h⟩ => hn h⟩
        · rw [opn_nxt hi', if_neg h4, if_neg h5]
          exact ⟨ih1, ih2⟩
    · have ha := trim1_at hi' hid
      obtain ⟨hkl, ha'⟩ := List.getElem?_eq_some_iff.1 ha
      have hop : ((trim1 p)[kp p i]).op = (p[i]).op := by rw [ha']; exact (movedI_op _ _).1
      rw [kp_kept hi' hid, opn_nxt hkl, hop, opn_nxt hi']
      by_cases h4 : (p[i]).op = 4
      · rw [if_pos h4, if_pos h4]
        have hr : Rch p 0 i := kept_rch hi' (by omega) hid
        exact ⟨fun _ _ => by simp, fun h => absurd ⟨by omega, by simpa using hr⟩ h⟩
      · rw [if_neg h4, if_neg h4]
        by_cases h5 : (p[i]).op = 5
        · rw [if_pos h5, if_pos h5]
          exact ⟨fun h => by omega, fun _ => rfl⟩
        · rw [if_neg h5, if_neg h5]
          exact ⟨ih1, ih2⟩
theorem opn_trim_neg {p : List Ins} (hc : CanB p) {i : Nat} (hi : i ≤ p.length) (h : opn p i < 0) : opn (trim1 p) (kp p i) = -1 := (opn_trim hc i hi).2 fun hh => by omega
/-- a way into a block leads through its Begin. -/
theorem rch_begin {p : List Ins} (hc : CanB p) : ∀ {i : Nat}, Rch p 0 i → i ≤ p.length → 0 ≤ opn p i → Rch p 0 (opn p i).toNat := by
  intro i h
  induction h with
  | refl => intro _ h; simp [opn] at h
  | @step j i hj hr hm ih =>
    intro hi ho
    have hcc := canC_iff.2 hc
    have hg := hcc.good j hj
    have hrg := nextL_range hc hj hm
    have hnx : (i : Int) = (j : Int) + 1 ∨ ((p[j]).op = 3 ∨ (p[j]).op = 20) ∧ (i : Int) = (p[j]).a := by
      unfold nextL at hm
      by_cases a1 : (p[j]).op = 0 ∨ (p[j]).op = 19
      · rw [if_pos a1] at hm; simp at hm
      · rw [if_neg a1] at hm
        by_cases a2 : (p[j]).op = 3 ∧ (p[j]).c = 2
        · rw [if_pos a2] at hm; simp at hm; exact .inr ⟨.inl a2.1, hm⟩
        · rw [if_neg a2] at hm
          by_cases a3 : ((p[j]).op = 3 ∨ (p[j]).op = 20) ∧ (p[j]).a > (j : Int) + 1
          · rw [if_pos a3] at hm; simp at hm
            rcases hm with hm | hm
            · exact .inl hm
            · exact .inr ⟨a3.1, hm⟩
          · rw [if_neg a3] at hm; simp at hm; exact .inl hm
    rcases hnx with e | ⟨hop, e⟩
    · have e : i = j + 1 := by omega
      subst e
      rw [opn_nxt hj] at ho ⊢
      by_cases h4 : (p[j]).op = 4
      · rw [if_pos h4]; simpa using hr
      · rw [if_neg h4] at ho ⊢
        by_cases h5 : (p[j]).op = 5
        · rw [if_pos h5] at ho; omega
        · rw [if_neg h5] at ho ⊢
          exact ih (by omega) ho
    · obtain ⟨g1, g2, g3, g4⟩ := hg.2.2.1 hop
      by_cases hlt : (p[j]).a < p.length
      · have := g4 hlt
        rw [← e] at this
        have e2 : opn p i = opn p j := by simpa using this
        rw [e2] at ho ⊢
        exact ih (by omega) ho
      · have hb := hc.shaped.2
        have : i = p.length := by omega
        subst this; omega
/-- an open block has its End further on. -/
theorem end_after {p : List Ins} (hc : CanB p) : ∀ (m i : Nat), p.length - i = m → i ≤ p.length → 0 ≤ opn p i → ∃ e, ∃ he : e < p.length, i ≤ e ∧ (p[e]).op = 5 ∧ opn p e = opn p i
  | 0, i, hm, hi, ho => by
    have : i = p.length := by omega
    subst this
    have := hc.shaped.2
    omega
  | m + 1, i, hm, hi, ho => by
    have hi' : i < p.length := by omega
    by_cases h5 : (p[i]).op = 5
    · exact ⟨i, hi', Nat.le_refl _, h5, rfl⟩
    · by_cases h4 : (p[i]).op = 4
      · have := (hc.shaped.1 i hi').1 h4
        omega
      · have e := opn_nxt hi'
        rw [if_neg h4, if_neg h5] at e
        obtain ⟨k, hk, h1, h2, h3⟩ := end_after hc m (i + 1) (by omega) (by omega) (by omega)
        exact ⟨k, hk, by omega, h2, by omega⟩
theorem kept_end {p : List Ins} {e : Nat} (he : e < p.length) (h5 : (p[e]).op = 5) (hr : Rch p 0 (opn p e).toNat) : ¬ idleP p e := fun h => (idle_end he h5).1 h hr

theorem sure_trim {p : List Ins} (hc : CanB p) : ∀ i, i ≤ p.length → 0 ≤ opn p i → Rch p 0 (opn p i).toNat → sureR (trim1 p) (kp p i) = true → sureR p i = true
  | 0, _, h, _, _ => by simp [opn] at h
  | i + 1, hi, ho, hr, hsu => by
    have hi' : i < p.length := hi
    rw [opn_nxt hi'] at ho hr
    rw [sureR_succ hi']
    by_cases h4 : (p[i]).op = 4
    · rw [if_pos h4] at hr
      have hr : Rch p 0 i := by simpa using hr
      have hid : ¬ idleP p i := fun h => (idle_begin hi' h4).1 h hr
      have ha := trim1_at hi' hid
      obtain ⟨hkl, ha'⟩ := List.getElem?_eq_some_iff.1 ha
      rw [kp_kept hi' hid, sureR_succ hkl, ha', (movedI_op _ _).1, if_pos h4] at hsu
      cases hsu
    · rw [if_neg h4] at ho hr
      rw [if_neg h4]
      by_cases h5 : (p[i]).op = 5
      · rw [if_pos h5] at ho; omega
      · rw [if_neg h5] at ho hr
        by_cases h21 : (p[i]).op = 21
        · rw [if_pos h21]
        · rw [if_neg h21]
          refine sure_trim hc i (by omega) ho hr ?_
          by_cases hid : idleP p i
          · rw [kp_idle hi' hid] at hsu; exact hsu
          · have ha := trim1_at hi' hid
            obtain ⟨hkl, ha'⟩ := List.getElem?_eq_some_iff.1 ha
            rw [kp_kept hi' hid, sureR_succ hkl, ha', (movedI_op _ _).1, if_neg h4, if_neg h21] at hsu
            exact hsu
theorem ways_trim {p : List Ins} (hc : CanB p) : ∀ i, i ≤ p.length → 0 ≤ opn p i → Rch p 0 (opn p i).toNat → waysR (trim1 p) (kp p i) ≤ waysR p i
  | 0, _, h, _ => by simp [opn] at h
  | i + 1, hi, ho, hr => by
    have hi' : i < p.length := hi
    rw [opn_nxt hi'] at ho hr
    rw [waysR_succ hi']
    by_cases h4 : (p[i]).op = 4
    · rw [if_pos h4] at hr
      have hr : Rch p 0 i := by simpa using hr
      have hid : ¬ idleP p i := fun h => (idle_begin hi' h4).1 h hr
      have ha := trim1_at hi' hid
      obtain ⟨hkl, ha'⟩ := List.getElem?_eq_some_iff.1 ha
      rw [kp_kept hi' hid, waysR_succ hkl, ha', (movedI_op _ _).1, if_pos h4]
      omega
    · rw [if_neg h4] at ho hr
      rw [if_neg h4]
      by_cases h5 : (p[i]).op = 5
      · rw [if_pos h5] at ho; omega
      · rw [if_neg h5] at ho hr
        have ih := ways_trim hc i (by omega) ho hr
        by_cases hid : idleP p i
        · rw [kp_idle hi' hid]; split <;> omega
        · have ha := trim1_at hi' hid
          obtain ⟨hkl, ha'⟩ := List.getElem?_eq_some_iff.1 ha
          rw [kp_kept hi' hid, waysR_succ hkl, ha', (movedI_op _ _).1, if_neg h4]
          split <;> omega

theorem fits_moved {bs : List Bool} {x : Ins} (hl : bs.length ≤ 1000) (h : Fits x) : Fits (movedI bs x) := by
  unfold movedI
  split
  · rename_i ho
    have hk : keptN bs x.a.toNat ≤ 1000 := Nat.le_trans (Nat.le_trans List.count_le_length (by rw [List.length_take]; exact Nat.min_le_right _ _)) hl
    obtain ⟨⟨l, h1, h2⟩, h3⟩ := h
    refine ⟨⟨l, h1, ?_⟩, fun hh => ?_⟩
    · rcases ho with ho | ho
      · have : l = [loI, hiI, 0, 3, 0, 2] := by rw [ho] at h1; simpa [lims] using h1.symm
        subst this
        simp only [inside] at h2 ⊢
        refine ⟨by unfold loI; omega, by unfold hiI; omega, h2.2.2⟩
      · have : l = [loI, hiI, 0, 0, 0, 0] := by rw [ho] at h1; simpa [lims] using h1.symm
        subst this
        simp only [inside] at h2 ⊢
        refine ⟨by unfold loI; omega, by unfold hiI; omega, h2.2.2⟩
    · have := hh.1
      simp only at this
      rcases ho with ho | ho <;> omega
  · exact h

/-- A TRIMMED PROGRAM CAN BE. -/
theorem can_trim {p : List Ins} (hc : CanB p) : CanB (trim1 p) := by
  have hcc := canC_iff.2 hc
  have h48 := hc.len
  refine canC_iff.1 ⟨Nat.le_trans (trim1_le p) h48, ⟨fun j hj => ?_, ?_⟩, fun j hj => ?_⟩
  · obtain ⟨i, hi, hid, rfl, he⟩ := trim1_inv hj
    rw [he, (movedI_op _ _).1]
    have hsh := hc.shaped.1 i hi
    refine ⟨fun h4 => ?_, fun h5 => ?_⟩
    · rw [opn_trim_neg hc (by omega) (hsh.1 h4)]; omega
    · have hr : Rch p 0 (opn p i).toNat := Classical.byContradiction fun hh => hid ((idle_end hi h5).2 hh)
      rw [(opn_trim hc i (by omega)).1 (hsh.2 h5) hr]; omega
  · rw [trim1_len, opn_trim_neg hc (Nat.le_refl _) hc.shaped.2]; omega
  · obtain ⟨i, hi, hid, rfl, he⟩ := trim1_inv hj
    rw [he]
    obtain ⟨g1, ⟨g2, g3⟩, g4, g5, g6⟩ := hcc.good i hi
    obtain ⟨m1, m2, m3⟩ := movedI_op (idleL p) p[i]
    have hlt := opn_lt p i
    -- inside a block: its Begin is reached
    have hin : 0 ≤ opn p i → Rch p 0 (opn p i).toNat := by
      intro ho
      by_cases h5 : (p[i]).op = 5
      · exact Classical.byContradiction fun hh => hid ((idle_end hi h5).2 hh)
      · exact rch_begin hc (kept_rch hi h5 hid) (by omega) ho
    refine ⟨fits_moved (by rw [idleL_len]; omega) g1, ⟨fun h => ?_, fun h => ?_⟩, fun h => ?_, ?_, ?_⟩
    · rw [m1] at h
      rw [opn_trim_neg hc (by omega) (g2 h)]; omega
    · rw [m1] at h
      have ho := g3 h
      rw [(opn_trim hc i (by omega)).1 ho (hin ho)]; omega
    · rw [m1] at h
      obtain ⟨a1, a2, a3, a4⟩ := g4 h
      have hma : (movedI (idleL p) p[i]).a = (kp p (p[i]).a.toNat : Int) := by unfold movedI; rw [if_pos h]
      rw [hma, trim1_len]
      have hl1 := kp_lt (p := p) (i := i) (j := (p[i]).a.toNat) (by omega) (by omega) hid
      have hl2 := kp_mono (p := p) (i := (p[i]).a.toNat) (j := p.length) (by omega) (Nat.le_refl _)
      by_cases ho : 0 ≤ opn p i
      · have hal : (p[i]).a < p.length := by
          apply Classical.byContradiction
          intro hh
          have := a3 (by omega)
          omega
        have e := a4 hal
        obtain ⟨z, hz, hz1, hz2, hz3⟩ := end_after hc _ (p[i]).a.toNat rfl (by omega) (by omega)
        have hr := hin ho
        have hzk : ¬ idleP p z := kept_end hz hz2 (by rw [hz3, e]; exact hr)
        have l1 := kp_mono (p := p) (i := (p[i]).a.toNat) (j := z) hz1 (by omega)
        have l2 := kp_lt (p := p) (i := z) (j := p.length) hz (Nat.le_refl _) hzk
        refine ⟨by omega, by omega, fun hh => by omega, fun _ => ?_⟩
        rw [Int.toNat_natCast, (opn_trim hc i (by omega)).1 ho hr, (opn_trim hc _ (by omega)).1 (by omega) (by rw [e]; exact hr), e]
      · have hn : opn p i < 0 := by omega
        have en := opn_trim_neg hc (by omega) hn
        refine ⟨by omega, by omega, fun _ => by omega, fun hh => ?_⟩
        rw [Int.toNat_natCast, en]
        by_cases hal : (p[i]).a < p.length
        · exact opn_trim_neg hc (by omega) (by have := a4 hal; omega)
        · have : (p[i]).a.toNat = p.length := by omega
          rw [this]
          exact opn_trim_neg hc (Nat.le_refl _) hc.shaped.2
    · rintro ⟨h, h3⟩
      rw [m1] at h
      have ho := g3 (by omega)
      have := ways_trim hc i (by omega) ho (hin ho)
      exact g5 ⟨h, by omega⟩
    · rintro ⟨h, h3⟩
      rw [m1] at h3
      have ho := g3 (by omega)
      exact g6 ⟨sure_trim hc i (by omega) ho (hin ho) h, h3⟩
theorem fit_moved {bs : List Bool} {x : Ins} (hl : bs.length ≤ 1000) (h : IFit x) : IFit (movedI bs x) := by
  unfold movedI
  split
  · have hk : keptN bs x.a.toNat ≤ 1000 := Nat.le_trans (Nat.le_trans List.count_le_length (by rw [List.length_take]; exact Nat.min_le_right _ _)) hl
    exact { h with a := ⟨by show loI ≤ _; unfold loI; simp only; omega, by show _ ≤ hiI; unfold hiI; simp only; omega⟩ }
  · exact h
theorem fit_trim {p : List Ins} (hc : CanB p) (hf : ∀ x ∈ p, IFit x) : ∀ x ∈ trim1 p, IFit x := by
  intro x hx
  obtain ⟨j, hj, rfl⟩ := List.getElem_of_mem hx
  obtain ⟨i, hi, _, _, he⟩ := trim1_inv hj
  rw [he]
  have h48 := hc.len
  exact fit_moved (by rw [idleL_len]; omega) (hf _ (List.getElem_mem hi))
/-- where nothing goes, nothing is idle. -/
theorem kp_all {p : List Ins} : ∀ n, n ≤ p.length → kp p n = n → ∀ i, i < n → ¬ idleP p i
  | 0, _, _, i, hi => by omega
  | n + 1, hn, he, i, hi => by
    have hn' : n < p.length := hn
    have hle := kp_le p n
    by_cases hid : idleP p n
    · rw [kp_idle hn' hid] at he; omega
    · rw [kp_kept hn' hid] at he
      by_cases e : i = n
      · subst e; exact hid
      · exact kp_all n (by omega) (by omega) i (by omega)
theorem none_idle {p : List Ins} (h : (trim1 p).length = p.length) {i : Nat} (hi : i < p.length) : ¬ idleP p i := kp_all p.length (Nat.le_refl _) (by rw [← trim1_len]; exact h) i hi
theorem kp_same {p : List Ins} (h : (trim1 p).length = p.length) : ∀ n, n ≤ p.length → kp p n = n
  | 0, _ => keptN_zero _
  | n + 1, hn => by rw [kp_kept hn (none_idle h hn), kp_same h n (by omega)]
theorem trim_same {p : List Ins} (hc : CanB p) (h : (trim1 p).length = p.length) : trim1 p = p := by
  refine List.ext_getElem h fun i h1 h2 => ?_
  have := trim1_at h2 (none_idle h h2)
  rw [kp_same h i (by omega)] at this
  rw [(List.getElem?_eq_some_iff.1 this).2]
  unfold movedI
  split
  · rename_i ho
    obtain ⟨f1, f2⟩ := hc.fwd i h2 ho
    have : (keptN (idleL p) (p[i]).a.toNat : Int) = (p[i]).a := by
      have := kp_same h (p[i]).a.toNat (by omega)
      have : keptN (idleL p) (p[i]).a.toNat = (p[i]).a.toNat := this
      omega
    rw [this]
  · rfl
/-- what can be, by numbers of 64 bits: all of its trimmed ones can. -/
def CanF (p : List Ins) : Prop := CanB p ∧ ∀ x ∈ p, IFit x
theorem canF_chain : Chain CanF := ⟨fun _ h => h.1, fun _ h => h.2, fun _ h => ⟨can_trim h.1, fit_trim h.1 h.2⟩⟩
/-- what is trimmed till nothing goes. -/
theorem Trims.stays {p q : List Ins} (h : Trims p q) : CanF p → CanF q ∧ trim1 q = q ∧ q.length ≤ p.length := by
  induction h with
  | @last p e =>
    intro hp
    have hs := trim_same hp.1 e
    rw [hs]
    exact ⟨hp, hs, Nat.le_refl _⟩
  | @more p q hne _ ih =>
    intro hp
    obtain ⟨h1, h2, h3⟩ := ih (canF_chain.next p hp)
    exact ⟨h1, h2, Nat.le_trans h3 (trim1_le p)⟩
theorem Trims.self {p q : List Ins} (h : trim1 p = p) (ht : Trims p q) : q = p := by
  cases ht with
  | last _ => exact h
  | more hn _ => rw [h] at hn; exact absurd rfl hn
theorem Trims.only {p q q' : List Ins} (h : Trims p q) : Trims p q' → q' = q := by
  induction h with
  | @last p e =>
    intro h2
    cases h2 with
    | last _ => rfl
    | more hn _ => exact absurd e hn
  | @more p q hne _ ih =>
    intro h2
    cases h2 with
    | last e => exact absurd e hne
    | more _ h2 => exact ih h2
theorem Trims.ex : ∀ (n : Nat) (p : List Ins), p.length ≤ n → ∃ q, Trims p q
  | 0, p, h => ⟨trim1 p, .last (by have := trim1_le p; omega)⟩
  | n + 1, p, h => by
    by_cases e : (trim1 p).length = p.length
    · exact ⟨_, .last e⟩
    · obtain ⟨q, hq⟩ := Trims.ex n (trim1 p) (by have := trim1_le p; omega)
      exact ⟨q, .more e hq⟩
end Go.Proofs.Ytijppadieomnjaa.HT
