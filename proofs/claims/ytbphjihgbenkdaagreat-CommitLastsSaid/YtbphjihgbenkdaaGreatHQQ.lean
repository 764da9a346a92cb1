/- Lemmas for the row. Conditions: none. -/
import Derived.Test.YtbphjihgbenkdaaGreatHQP
import Derived.Deep.LoopGhost
namespace Go.Proofs.YtbphjihgbenkdaaGreat.HQ
set_option linter.unusedVariables false
set_option linter.unusedSectionVars false
set_option linter.unusedSimpArgs false
open Go
set_option linter.unusedSectionVars false
variable [Sites]
def setS : List JI → List HV → St → Option St
 | [], [], S => some S
 | .t t _ :: J, v :: vs, S => setS J vs { S with F := .set t (.v v) S.F }
 | .x d _ :: J, .agg cs :: vs, S => setS J vs { S with B := .set d cs S.B }
 | _, _, _ => none
section
variable {α : Type}
theorem setJ_some {J : List JI} : ∀ {vs : List HV} {S : St} {K : St → M α} {H : Heap} {n : Nat} {r : α × Heap}, setJ J vs S K H n = some r → ∃ S', setS J vs S = some S' ∧ app (K S') H n = some r := by
 induction J with
 | nil =>
  intro vs S K H n r h
  simp only [setJ] at h
  obtain ⟨rfl, h⟩ := nl_some h
  exact ⟨S, rfl, h⟩
 | cons it J ih =>
  intro vs S K H n r h
  cases it with
  | t t sh =>
   simp only [setJ] at h
   obtain ⟨v, l, rfl, h⟩ := uc_some h
   obtain ⟨S', h1, h2⟩ := ih (Sh1.d_some h)
   exact ⟨S', h1, h2⟩
  | x d shs =>
   cases shs with
   | none =>
    simp only [setJ] at h
    obtain ⟨v, l, rfl, h⟩ := uc_some h
    obtain ⟨cs, rfl, h⟩ := asA_some h
    obtain ⟨S', h1, h2⟩ := ih h
    exact ⟨S', h1, h2⟩
   | some shs =>
    simp only [setJ] at h
    obtain ⟨v, l, rfl, h⟩ := uc_some h
    obtain ⟨cs, rfl, h⟩ := asA_some h
    obtain ⟨S', h1, h2⟩ := ih (Sc.ds_some h)
    exact ⟨S', h1, h2⟩
end
theorem setS_get {J : List JI} : ∀ {vs : List HV} {S S' : St} {S1 : St}, setS J vs S = some S' → collect J S1 = some vs →
  (∀ t, t ∈ jslots J → ∃ h, S'.F.get t = .v h ∧ S1.F.get t = .v h) ∧ (∀ t, t ∉ jslots J → S'.F.get t = S.F.get t) ∧
  (∀ d, d ∈ boxes J → S'.B.get d = S1.B.get d ∧ S1.B.get d ≠ none) ∧ (∀ d, d ∉ boxes J → S'.B.get d = S.B.get d) ∧ (∀ lv, Bx.under lv S'.B = Bx.under lv S.B) := by
 induction J with
 | nil =>
  intro vs S S' S1 h _
  cases vs with
  | nil => simp [setS] at h; subst h; simp [jslots, boxes]
  | cons v vs => simp [setS] at h
 | cons it J ih =>
  intro vs S S' S1 h hc
  cases it with
  | t t sh =>
   simp only [collect] at hc
   split at hc
   ·rename_i hv hg
    cases hcr : collect J S1 with
    | none => rw [hcr] at hc; cases hc
    | some l =>
     rw [hcr] at hc; cases hc
     simp only [setS] at h
     obtain ⟨q1, q2, q3, q4, q5⟩ := ih h hcr
     refine ⟨fun x hx => ?_, fun x hx => ?_, q3, q4, q5⟩
     ·simp only [jslots, List.mem_cons] at hx
      by_cases hin : x ∈ jslots J
      ·exact q1 x hin
      ·rcases hx with rfl | hx
       ·refine ⟨hv, ?_, hg⟩
        rw [q2 _ hin, Fr.get_set, if_pos rfl]
       ·exact absurd hx hin
     ·simp only [jslots, List.mem_cons, not_or] at hx
      rw [q2 x hx.2, Fr.get_set, if_neg hx.1]
   ·cases hc
  | x d shs =>
   simp only [collect] at hc
   split at hc
   ·rename_i cs hg
    cases hcr : collect J S1 with
    | none => rw [hcr] at hc; cases hc
    | some l =>
     rw [hcr] at hc; cases hc
     simp only [setS] at h
     obtain ⟨q1, q2, q3, q4, q5⟩ := ih h hcr
     refine ⟨q1, q2, fun x hx => ?_, fun x hx => ?_, q5⟩
     ·simp only [boxes, List.mem_cons] at hx
      by_cases hin : x ∈ boxes J
      ·exact q3 x hin
      ·rcases hx with rfl | hx
       ·rw [q4 _ hin, Bx.get_set, if_pos rfl, hg]; simp
       ·exact absurd hx hin
     ·simp only [boxes, List.mem_cons, not_or] at hx
      rw [q4 x hx.2, Bx.get_set, if_neg hx.1]
   ·cases hc
theorem setS_under {J : List JI} : ∀ {vs : List HV} {A A' : St}, setS J vs A = some A' → ∀ lv, Bx.under lv A'.B = Bx.under lv A.B := by
 induction J with
 | nil => intro vs A A' h lv; cases vs <;> simp [setS] at h; subst h; rfl
 | cons it J ih =>
  intro vs A A' h lv
  cases it with
  | t t sh =>
   cases vs with
   | nil => simp [setS] at h
   | cons v vs => simp only [setS] at h; rw [ih h]
  | x d shs =>
   cases vs with
   | nil => simp [setS] at h
   | cons v vs =>
    cases v <;> simp only [setS] at h <;> first | (rw [ih h]; rfl) | cases h
theorem setS_congr {J : List JI} : ∀ {vs : List HV} {A A' B : St}, setS J vs A = some A' → (∀ t, A.F.get t = B.F.get t) → (∀ d, A.B.get d = B.B.get d) →
  ∃ B', setS J vs B = some B' ∧ (∀ t, A'.F.get t = B'.F.get t) ∧ (∀ d, A'.B.get d = B'.B.get d) := by
 induction J with
 | nil => intro vs A A' B h h1 h2; cases vs <;> simp [setS] at h; subst h; exact ⟨B, rfl, h1, h2⟩
 | cons it J ih =>
  intro vs A A' B h h1 h2
  cases it with
  | t t sh =>
   cases vs with
   | nil => simp [setS] at h
   | cons v vs =>
    simp only [setS] at h ⊢
    exact ih h (fun x => by simp only [Fr.get_set]; rw [h1]) h2
  | x d shs =>
   cases vs with
   | nil => simp [setS] at h
   | cons v vs =>
    cases v <;> simp only [setS] at h ⊢ <;> first | exact ih h h1 (fun x => by simp only [Bx.get_set]; rw [h2]) | cases h
theorem setS_other {J : List JI} : ∀ {vs : List HV} {A A' : St}, setS J vs A = some A' → ∀ t, t ∉ jslots J → A'.F.get t = A.F.get t := by
 induction J with
 | nil => intro vs A A' h t _; cases vs <;> simp [setS] at h; subst h; rfl
 | cons it J ih =>
  intro vs A A' h t ht
  cases it with
  | t t' sh =>
   cases vs with
   | nil => simp [setS] at h
   | cons v vs =>
    simp only [setS] at h
    simp only [jslots, List.mem_cons, not_or] at ht
    rw [ih h t ht.2, Fr.get_set, if_neg ht.1]
  | x d shs =>
   cases vs with
   | nil => simp [setS] at h
   | cons v vs => cases v <;> simp only [setS] at h <;> first | exact ih h t ht | cases h
theorem setS_otherB {J : List JI} : ∀ {vs : List HV} {A A' : St}, setS J vs A = some A' → ∀ d, d ∉ boxes J → A'.B.get d = A.B.get d := by
 induction J with
 | nil => intro vs A A' h t _; cases vs <;> simp [setS] at h; subst h; rfl
 | cons it J ih =>
  intro vs A A' h t ht
  cases it with
  | t t' sh =>
   cases vs with
   | nil => simp [setS] at h
   | cons v vs => simp only [setS] at h; exact ih h t ht
  | x d shs =>
   simp only [boxes, List.mem_cons, not_or] at ht
   cases vs with
   | nil => simp [setS] at h
   | cons v vs => cases v <;> simp only [setS] at h <;> first | (rw [ih h t ht.2, Bx.get_set, if_neg ht.1]; done) | cases h
theorem collect_box {J : List JI} : ∀ {vs : List HV} {S : St}, collect J S = some vs → ∀ d, d ∈ boxes J → S.B.get d ≠ none := by
 induction J with
 | nil => intro vs S _ d hd; simp [boxes] at hd
 | cons it J ih =>
  intro vs S h d hd
  cases it with
  | t t sh =>
   simp only [collect] at h
   split at h
   ·cases hcr : collect J S with
    | none => rw [hcr] at h; cases h
    | some l => exact ih hcr d hd
   ·cases h
  | x d' shs =>
   simp only [collect] at h
   split at h
   ·rename_i cs hg
    cases hcr : collect J S with
    | none => rw [hcr] at h; cases h
    | some l =>
     rcases List.mem_cons.1 hd with rfl | hd
     ·simp [hg]
     ·exact ih hcr d hd
   ·cases h
theorem clean_get {lv : Nat} {L : List Nat} : ∀ {B : Bx}, Bx.clean lv L B = true → ∀ d, d ∉ L → (Bx.under lv B).get d ≠ none → B.get d = (Bx.under lv B).get d
 | .nil, h, _, _, _ => by cases h
 | .bar l B, h, d, hd, hu => by
  have hget : (Bx.bar l B).get d = B.get d := rfl
  rw [hget]
  cases e : Nat.beq l lv with
  | true =>
   have hun : Bx.under lv (.bar l B) = B := by simp only [Bx.under, e]
   rw [hun]
  | false =>
   have hun : Bx.under lv (.bar l B) = Bx.under lv B := by simp only [Bx.under, e]
   have hcl : Bx.clean lv L B = true := by simp only [Bx.clean, e] at h; exact h
   rw [hun] at hu ⊢; exact clean_get hcl d hd hu
 | .set d0 cs B, h, d, hd, hu => by
  simp only [Bx.clean] at h
  split at h
  ·cases h
  ·rename_i hb
   show (Bx.set d0 cs B).get d = (Bx.under lv B).get d
   replace hu : (Bx.under lv B).get d ≠ none := hu
   rw [Bx.get_set]
   by_cases e : d = d0
   ·subst e
    split at h
    ·rename_i hm; exact absurd ((mem_iff _ _).1 hm) hd
    ·split at h
     ·rename_i hn; exact absurd hn hu
     ·cases h
   ·rw [if_neg e]; exact clean_get hb d hd hu
theorem Fr.get_mask (ts : List Nat) (F : Fr) (t : Nat) : (Fr.mask ts F).get t = if t ∈ ts then .un else F.get t := by
 simp only [Fr.get]
 by_cases h : t ∈ ts
 ·rw [if_pos h, (mem_iff t ts).2 h]
 ·rw [if_neg h]
  have : mem t ts = false := by
   cases e : mem t ts with
   | false => rfl
   | true => exact absurd ((mem_iff t ts).1 e) h
  rw [this]
section
variable {E : Env} {P : Program} {I0 : Inj} {H0 : Heap} {w0 : World} {cx : Cx}
theorem Inv.congr {β : Nat → Option Nat} {I : Inj} {H : Heap} {w : World} {S S' : St} {a : Act} (hI : Inv E P I0 H0 w0 cx β I H w S a) (hF : ∀ t, S'.F.get t = S.F.get t ∨ S'.F.get t = .un) (hB : ∀ d, S'.B.get d = S.B.get d)
  (hU : ∀ b ∈ cx.bars, Bx.under b.lv S'.B = Bx.under b.lv S.B) : Inv E P I0 H0 w0 cx β I H w S' a where
 step := hI.step
 rel := hI.rel
 fr := fun t => by
  rcases hF t with h | h
  ·rw [h]; exact (hI.fr t).mono (.refl I) (fun _ _ _ h => h) (fun d h => by rw [hB]; exact h)
  ·rw [h]; trivial
 br := ⟨fun d cs h => hI.br.box d cs (by rw [← hB]; exact h), fun d1 d2 b h1 h2 => hI.br.inj d1 d2 b (by rw [← hB]; exact h1) (by rw [← hB]; exact h2), fun d b h => hI.br.img d b (by rw [← hB]; exact h)⟩
 fresh := fun d b h => hI.fresh d b (by rw [← hB]; exact h)
 gl := hI.gl
 sz := hI.sz
 anc := fun b hb => by obtain ⟨h1, h2, h3⟩ := hI.anc b hb; exact ⟨h1, by rw [hU b hb]; exact h2, h3⟩
 defers := hI.defers
theorem Inv.less {bar : Bar} {β : Nat → Option Nat} {I : Inj} {H : Heap} {w : World} {S : St} {a : Act} (hI : Inv E P I0 H0 w0 { cx with bars := bar :: cx.bars } β I H w S a) : Inv E P I0 H0 w0 cx β I H w S a :=
 ⟨hI.step, hI.rel, hI.fr, hI.br, hI.fresh, hI.gl, hI.sz, fun b hb => hI.anc b (List.mem_cons_of_mem _ hb), hI.defers⟩
theorem under_bar_ne {lv l : Nat} (h : l ≠ lv) (B : Bx) : Bx.under lv (.bar l B) = Bx.under lv B := by
 simp only [Bx.under, beq_ne h]
theorem under_bar (lv : Nat) (B : Bx) : Bx.under lv (.bar lv B) = B := by
 simp only [Bx.under]
 have : Nat.beq lv lv = true := Nat.beq_refl lv
 rw [this]
theorem Inv.anchor {lv : Nat} {β : Nat → Option Nat} {I : Inj} {H : Heap} {w : World} {S : St} {a : Act} (hI : Inv E P I0 H0 w0 cx β I H w S a) (hlv : ∀ b ∈ cx.bars, b.lv ≤ lv) (T : List Nat) :
  Inv E P I0 H0 w0 { cx with bars := { lv := lv + 1, B := S.B, β := β, T := T, a := a, I := I } :: cx.bars } β I H w (S.bar (lv + 1)) a := by
 have hb : Inv E P I0 H0 w0 cx β I H w (S.bar (lv + 1)) a :=
  hI.congr (fun _ => .inl rfl) (fun _ => rfl) (fun b hb => by have := hlv b hb; exact under_bar_ne (by omega) S.B)
 refine ⟨hb.step, hb.rel, hb.fr, hb.br, hb.fresh, hb.gl, hb.sz, fun b hm => ?_, hb.defers⟩
 rcases List.mem_cons.1 hm with rfl | hm
 ·exact ⟨fun _ _ => rfl, under_bar _ _, fun _ _ => rfl, .refl I⟩
 ·exact hb.anc b hm
theorem join_inv {lv : Nat} {J : List JI} {vs : List HV} {T : List Nat} {β β0 : Nat → Option Nat} {I Ib : Inj} {H : Heap} {w : World} {S S1 S' : St} {a a0 : Act}
  (hI : Inv E P I0 H0 w0 { cx with bars := { lv := lv, B := S.B, β := β0, T := T, a := a0, I := Ib } :: cx.bars } β I H w S1 a)
  (hbase : ∀ t, t ∉ T → t ∉ jslots J → SVR Ib β0 S.B (S.F.get t) (a0.tmps.getD t undef))
  (hunder : ∀ b ∈ cx.bars, Bx.under b.lv S.B = b.B)
  (hc : collect J S1 = some vs) (hcl : S1.B.clean lv (boxes J) = true) (hs : setS J vs (S.kill T) = some S') : Inv E P I0 H0 w0 cx β I H w S' a := by
 obtain ⟨q1, q2, q3, q4, q5⟩ := setS_get hs hc
 obtain ⟨k1, k2, k3, hle⟩ := hI.anc _ List.mem_cons_self
 simp only at k1 k2 k3 hle
 have hdom : ∀ d, S.B.get d ≠ none → S1.B.get d ≠ none := fun d h => under_dom (lv := lv) S1.B d (by rw [k2]; exact h)
 have hB : ∀ d, S'.B.get d ≠ none → S'.B.get d = S1.B.get d := by
  intro d h
  by_cases hin : d ∈ boxes J
  ·exact (q3 d hin).1
  ·rw [q4 d hin] at h ⊢
   have h : S.B.get d ≠ none := h
   have := clean_get hcl d hin (by rw [k2]; exact h)
   rw [k2] at this; exact this.symm
 have hB1 : ∀ d, S'.B.get d ≠ none → S1.B.get d ≠ none := fun d h => by rw [← hB d h]; exact h
 have hSB : ∀ d, S.B.get d ≠ none → S'.B.get d ≠ none := by
  intro d h
  by_cases hin : d ∈ boxes J
  ·rw [(q3 d hin).1]; exact (q3 d hin).2
  ·rw [q4 d hin]; exact h
 refine ⟨hI.step, hI.rel, ?_, ?_, ?_, hI.gl, hI.sz, ?_, hI.defers⟩
 ·intro t
  by_cases hin : t ∈ jslots J
  ·obtain ⟨h, e1, e2⟩ := q1 t hin
   have := hI.fr t
   rw [e2] at this
   rw [e1]; exact this
  ·rw [q2 t hin]
   show SVR I β S'.B ((Fr.mask T S.F).get t) _
   rw [Fr.get_mask]
   split
   ·trivial
   ·rename_i hT
    have := hbase t hT hin
    rw [k1 t hT]
    exact this.mono hle (fun d b hd hb => by rw [k3 d hd]; exact hb) hSB
 ·exact ⟨fun d cs h => hI.br.box d cs (by rw [← hB d (by simp [h])]; exact h), fun d1 d2 b h1 h2 => hI.br.inj d1 d2 b (hB1 d1 h1) (hB1 d2 h2), fun d b h => hI.br.img d b (hB1 d h)⟩
 ·exact fun d b h => hI.fresh d b (hB1 d h)
 ·intro b hb
  obtain ⟨h1, h2, h3⟩ := hI.anc b (List.mem_cons_of_mem _ hb)
  exact ⟨h1, by rw [q5]; exact hunder b hb, h3⟩
end
end Go.Proofs.YtbphjihgbenkdaaGreat.HQ
