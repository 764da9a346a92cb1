/- Lemmas for the row. Conditions: none. -/
import Derived.Test.YtbphjihgbenkdaaGreatHQQ
import Derived.Test.YtbphjihgbenkdaaGreatHQCs
namespace Go.Proofs.YtbphjihgbenkdaaGreat.HQ
set_option linter.unusedVariables false
set_option linter.unusedSectionVars false
set_option linter.unusedSimpArgs false
open Go
set_option linter.unusedSectionVars false
variable [Sites]
section
variable {I : Inj} {H : Heap} {w : World}
theorem Rel.setL (h : Rel I H w) {l l' k : Nat} {vs : List (Nat × HV)} {st : LoopState} {pd : Option Code} (hj : I.j l = some (l', 0)) (hg : H.get l = .spc (.loop k vs st pd)) {r : Loop} (hr : w.heap[l']? = some (.loop r)) (st' : LoopState) (pd' : Option Code) :
  Rel I (H.set l (.spc (.loop k vs st' pd'))) (w.putObj l' (.loop { r with state := st', pending := pd' })) := by
 obtain ⟨_, r0, hr0, hL⟩ := h.spc l l' 0 _ hj hg
 rw [hr] at hr0; cases hr0
 exact h.setS hj hg (show SRel I (.loop k vs st' pd') (.loop { r with state := st', pending := pd' }) from ⟨rfl, rfl, hL.2.2.1, hL.2.2.2⟩)
theorem Step.setL {l l' k : Nat} {vs : List (Nat × HV)} {st : LoopState} {pd : Option Code} (hj : I.j l = some (l', 0)) (hg : H.get l = .spc (.loop k vs st pd)) (st' : LoopState) (pd' : Option Code) (ro : Loop) :
  Step I H w I (H.set l (.spc (.loop k vs st' pd'))) (w.putObj l' (.loop ro)) := Step.setS hj hg _ _ fun _ _ => ⟨ro, rfl⟩
theorem Rel.other (h : Rel I H w) {D : Nat} {o : Obj} (hD : ∀ x e, I.j x ≠ some (D, e)) (hc : ∀ c el fr, w.heap[D]? ≠ some (.cells c el fr)) : Rel I H (w.putObj D o) :=
  ⟨h.bnd, fun b b' d e => by rw [putObj_size]; exact h.img b b' d e,
   fun b b' d cs ro e1 e2 => by
    obtain ⟨c, el, fr, q1, q2⟩ := h.obj b b' d cs ro e1 e2
    have : b' ≠ D := fun hh => by subst hh; exact hD _ _ e1
    exact ⟨c, el, fr, by rw [putObj_ne this]; exact q1, q2⟩,
   h.inj,
   fun b' s e => by
    obtain ⟨c, el, fr, q1, q2⟩ := h.sz b' s e
    have : b' ≠ D := fun hh => by subst hh; exact hc _ _ _ q1
    exact ⟨c, el, fr, by rw [putObj_ne this]; exact q1, q2⟩,
   fun b b' d s e1 e2 => by
    obtain ⟨h0, r, q1, q2⟩ := h.spc b b' d s e1 e2
    have : b' ≠ D := fun hh => by subst hh; exact hD _ _ e1
    exact ⟨h0, r, by rw [putObj_ne this]; exact q1, q2⟩,
   fun _ _ _ _ _ e1 e2 => h.tyK (fun x c el fr hx => ⟨c, fr, by rw [putObj_ne (fun hh => by subst hh; exact hc _ _ _ hx)]; exact hx, rfl⟩) e1 e2,
   h.sinj⟩
theorem Rel.newL (h : Rel I H w) {k : Nat} {vs : List (Nat × HV)} {st : LoopState} {pd : Option Code} {r : Loop} (hL : LRel I k vs st pd r) : Rel (I.mv H.n w.heap.size) (H.push (.spc (.loop k vs st pd))) (w.alloc (.loop r)) := h.newS (s := .loop k vs st pd) hL
theorem Step.newL (h : Rel I H w) (k : Nat) (vs : List (Nat × HV)) (st : LoopState) (pd : Option Code) (r : Loop) : Step I H w (I.mv H.n w.heap.size) (H.push (.spc (.loop k vs st pd))) (w.alloc (.loop r)) := .newS h _ _
end
def siteOk (nt : Nat) (c : Code) (an : Ann) : Prop := ∀ s ∈ sites c an, Sites.ok s.k 0 nt s.ps s.a s.b
theorem slotVals_get {S : St} : ∀ {sl : List Nat} {vs : List (Nat × HV)}, slotVals sl S = some vs → ∀ p ∈ vs, S.F.get p.1 = .v p.2
 | [], vs, h, p, hp => by simp [slotVals] at h; subst h; cases hp
 | t :: sl, vs, h, p, hp => by
  simp only [slotVals] at h
  split at h
  ·rename_i x hx
   cases hq : slotVals sl S with
   | none => rw [hq] at h; cases h
   | some vs' =>
    rw [hq] at h
    cases h
    rcases List.mem_cons.1 hp with rfl | hp
    ·exact hx
    ·exact slotVals_get hq p hp
  ·cases h
theorem ny_some {α : Type} {h : HV} {m : M α} {H : Heap} {n : Nat} {r : α × Heap} (e : ny h m H n = some r) : app m H n = some r ∧ ∀ l, h ≠ .yld l := by
 unfold ny at e
 split at e
 ·exact (stk_some e).elim
 ·rename_i hh; exact ⟨e, fun l hl => hh l hl⟩
end Go.Proofs.YtbphjihgbenkdaaGreat.HQ
