/- Loops over functions: their records, in the relation. Conditions: none (lemmas). -/
import Derived.Test.YtolchnaegifckaaHSQ
namespace Go.Proofs.Ytolchnaegifckaa.HS
open Go
set_option linter.unusedSectionVars false
variable [Sites]
section
variable {I : Inj} {H : Heap} {w : World}

theorem putObj_ne {l x : Nat} {o : Obj} (h : x ≠ l) : (w.putObj l o).heap[x]? = w.heap[x]? := by
  simp only [World.putObj]
  rw [Array.getElem?_setIfInBounds_ne (Ne.symm h)]
theorem putObj_eq {o : Obj} (x : Nat) (h : x < w.heap.size) : (w.putObj x o).heap[x]? = some o := by
  simp only [World.putObj]
  simp [h]
theorem putObj_size {l : Nat} {o : Obj} : (w.putObj l o).heap.size = w.heap.size := by simp [World.putObj]

/-- a record's state turns. -/
theorem Rel.setL (h : Rel I H w) {l l' k : Nat} {vs : List (Nat × HV)} {st : LoopState} {pd : Option Code} (hj : I.j l = some (l', 0)) (hg : H.get l = .loop k vs st pd) {r : Loop} (hr : w.heap[l']? = some (.loop r)) (st' : LoopState) (pd' : Option Code) :
    Rel I (H.set l (.loop k vs st' pd')) (w.putObj l' (.loop { r with state := st', pending := pd' })) := by
  have hlt := lt_of_heap hr
  obtain ⟨_, r0, hr0, hL⟩ := h.loop l l' 0 k vs st pd hj hg
  rw [hr] at hr0; cases hr0
  refine ⟨h.bnd, fun b b' d e => by rw [putObj_size]; exact h.img b b' d e, ?_, ?_, ?_, ?_, ?_⟩
  · intro b b' d cs ro e1 e2
    simp only [Heap.set] at e2
    split at e2
    · cases e2
    · obtain ⟨c, el, fr, q1, q2⟩ := h.obj b b' d cs ro e1 e2
      have : b' ≠ l' := fun hh => by subst hh; rw [hr] at q1; cases q1
      exact ⟨c, el, fr, by rw [putObj_ne this]; exact q1, q2⟩
  · intro b1 b2 b' d1 d2 c1 c2 ro e1 e2 e3 e4
    simp only [Heap.set] at e3 e4
    split at e3 <;> split at e4 <;> first | cases e3; done | cases e4; done | exact h.inj b1 b2 b' d1 d2 c1 c2 ro e1 e2 e3 e4
  · intro b' s e
    obtain ⟨c, el, fr, q1, q2⟩ := h.sz b' s e
    have : b' ≠ l' := fun hh => by subst hh; rw [hr] at q1; cases q1
    exact ⟨c, el, fr, by rw [putObj_ne this]; exact q1, q2⟩
  · intro b b' d k2 vs2 st2 pd2 e1 e2
    simp only [Heap.set] at e2
    split at e2
    · rename_i hb; subst hb; cases e2
      rw [hj] at e1; cases e1
      exact ⟨rfl, _, World.putObj_heap_same hlt, rfl, rfl, hL.2.2.1, hL.2.2.2⟩
    · rename_i hb
      obtain ⟨h0, r2, q1, q2⟩ := h.loop b b' d k2 vs2 st2 pd2 e1 e2
      have : b' ≠ l' := fun hh => by
        subst hh
        exact hb (h.linj b l b' d 0 k2 vs2 st2 pd2 k vs st pd e1 hj e2 hg)
      exact ⟨h0, r2, by rw [putObj_ne this]; exact q1, q2⟩
  · intro b1 b2 b' d1 d2 k1 vs1 st1 pd1 k2 vs2 st2 pd2 e1 e2 e3 e4
    simp only [Heap.set] at e3 e4
    split at e3 <;> split at e4
    · omega
    · rename_i h1 h2; subst h1; exact h.linj b1 b2 b' d1 d2 k vs st pd k2 vs2 st2 pd2 e1 e2 hg e4
    · rename_i h1 h2; subst h2; exact h.linj b1 b2 b' d1 d2 k1 vs1 st1 pd1 k vs st pd e1 e2 e3 hg
    · exact h.linj b1 b2 b' d1 d2 k1 vs1 st1 pd1 k2 vs2 st2 pd2 e1 e2 e3 e4
theorem Step.setL {l l' k : Nat} {vs : List (Nat × HV)} {st : LoopState} {pd : Option Code} (hj : I.j l = some (l', 0)) (hg : H.get l = .loop k vs st pd) (st' : LoopState) (pd' : Option Code) (ro : Loop) :
    Step I H w I (H.set l (.loop k vs st' pd')) (w.putObj l' (.loop ro)) where
  ext := ⟨rfl, rfl⟩
  le := .refl I
  n := Nat.le_refl _
  size := by rw [putObj_size]; exact Nat.le_refl _
  keep := by
    intro x _ _ hl
    refine putObj_ne fun hh => ?_
    subst hh; exact hl l 0 k vs st pd hj hg
  img1 := fun x _ d e => .inr ⟨x, d, e⟩
  img2 := by
    intro x b' d cs e1 e2; simp only [Heap.set] at e2
    split at e2
    · cases e2
    · exact .inr ⟨x, d, cs, e1, e2⟩
  img3 := by
    intro x b' d k2 vs2 st2 pd2 e1 e2; simp only [Heap.set] at e2
    split at e2
    · rename_i hx; subst hx; exact .inr ⟨x, d, k, vs, st, pd, e1, hg⟩
    · exact .inr ⟨x, d, k2, vs2, st2, pd2, e1, e2⟩
  lp := fun x r h => by
    by_cases hx : x = l'
    · subst hx; exact ⟨ro, putObj_eq _ (lt_of_heap h)⟩
    · exact ⟨r, (putObj_ne hx).trans h⟩
/-- a block that the abstract heap doesn't know turns. -/
theorem Rel.other (h : Rel I H w) {D : Nat} {o : Obj} (hD : ∀ x e, I.j x ≠ some (D, e)) (hc : ∀ c el fr, w.heap[D]? ≠ some (.cells c el fr)) : Rel I H (w.putObj D o) :=
  ⟨h.bnd, fun b b' d e => by rw [putObj_size]; exact h.img b b' d e,
   fun b b' d cs ro e1 e2 => by
    obtain ⟨c, el, fr, q1, q2⟩ := h.obj b b' d cs ro e1 e2
    have : b' ≠ D := fun hh => by subst hh; exact hD _ _ e1
    exact ⟨c, el, fr, by rw [putObj_ne this]; exact q1, q2⟩,
   h.inj,
   fun b' s e => by
    obtain ⟨c, el, fr, q1, q2⟩ := h.sz b' s e
    have : b' ≠ D := fun hh => by subst hh; exact hc _ _ _ q1
    exact ⟨c, el, fr, by rw [putObj_ne this]; exact q1, q2⟩,
   fun b b' d k vs st pd e1 e2 => by
    obtain ⟨h0, r, q1, q2⟩ := h.loop b b' d k vs st pd e1 e2
    have : b' ≠ D := fun hh => by subst hh; exact hD _ _ e1
    exact ⟨h0, r, by rw [putObj_ne this]; exact q1, q2⟩,
   h.linj⟩
/-- a new record. -/
theorem Rel.newL (h : Rel I H w) {k : Nat} {vs : List (Nat × HV)} {st : LoopState} {pd : Option Code} {r : Loop} (hL : LRel I k vs st pd r) : Rel (I.mv H.n w.heap.size) (H.push (.loop k vs st pd)) (w.alloc (.loop r)) := by
  have hle : I.le (I.mv H.n w.heap.size) := ⟨fun x y e => (by simp only [Inj.mv]; rw [if_neg]; exact e; intro hx; rw [hx, h.j_none (Nat.le_refl _)] at e; cases e), fun _ _ e => e⟩
  have gm : ∀ x, (H.push (.loop k vs st pd)).get x = if x = H.n then .loop k vs st pd else H.get x := fun _ => rfl
  refine ⟨?_, ?_, ?_, ?_, ?_, ?_, ?_⟩
  · intro x y e; simp only [Inj.mv] at e; simp only [Heap.push]
    split at e
    · omega
    · have := h.bnd x y e; omega
  · intro x b'' d e; simp only [Inj.mv] at e; simp
    split at e
    · cases e; omega
    · have := h.img x b'' d e; omega
  · intro x b'' d cs' ro e1 e2
    simp only [Inj.mv] at e1; rw [gm] at e2
    split at e1
    · rename_i hx; rw [if_pos hx] at e2; cases e2
    · rename_i hx; rw [if_neg hx] at e2
      obtain ⟨c', el', fr, q1, q2, q3⟩ := h.obj x b'' d cs' ro e1 e2
      exact ⟨c', el', fr, by rw [heap_alloc_lt w _ (lt_of_heap q1)]; exact q1, fun i y hy => by
        obtain ⟨v, p1, p2⟩ := q2 i y hy; exact ⟨v, p1, p2.mono hle⟩, q3⟩
  · intro b1 b2 b'' d1 d2 c1 c2' ro e1 e2 e3 e4
    simp only [Inj.mv] at e1 e2; rw [gm] at e3 e4
    split at e1
    · rename_i hx; rw [if_pos hx] at e3; cases e3
    split at e2
    · rename_i hx; rw [if_pos hx] at e4; cases e4
    rename_i h1 h2
    rw [if_neg h1] at e3; rw [if_neg h2] at e4
    exact h.inj b1 b2 b'' d1 d2 c1 c2' ro e1 e2 e3 e4
  · intro x s e
    obtain ⟨c', el', fr, h1, h2⟩ := h.sz x s e
    exact ⟨c', el', fr, by rw [heap_alloc_lt w _ (lt_of_heap h1)]; exact h1, h2⟩
  · intro x b'' d k2 vs2 st2 pd2 e1 e2
    simp only [Inj.mv] at e1; rw [gm] at e2
    split at e1
    · rename_i hx; rw [if_pos hx] at e2; cases e1; cases e2
      exact ⟨rfl, r, heap_alloc_eq _ _, hL.mono hle⟩
    · rename_i hx; rw [if_neg hx] at e2
      obtain ⟨h0, r2, q1, q2⟩ := h.loop x b'' d k2 vs2 st2 pd2 e1 e2
      exact ⟨h0, r2, by rw [heap_alloc_lt w _ (lt_of_heap q1)]; exact q1, q2.mono hle⟩
  · intro b1 b2 b'' d1 d2 k1 vs1 st1 pd1 k2 vs2 st2 pd2 e1 e2 e3 e4
    simp only [Inj.mv] at e1 e2; rw [gm] at e3 e4
    split at e1 <;> split at e2
    · omega
    · rename_i h1 h2; cases e1; have := h.img b2 _ d2 e2; omega
    · rename_i h1 h2; cases e2; have := h.img b1 _ d1 e1; omega
    · rename_i h1 h2
      rw [if_neg h1] at e3; rw [if_neg h2] at e4
      exact h.linj b1 b2 b'' d1 d2 k1 vs1 st1 pd1 k2 vs2 st2 pd2 e1 e2 e3 e4
theorem Step.newL (h : Rel I H w) (k : Nat) (vs : List (Nat × HV)) (st : LoopState) (pd : Option Code) (r : Loop) : Step I H w (I.mv H.n w.heap.size) (H.push (.loop k vs st pd)) (w.alloc (.loop r)) where
  ext := ⟨rfl, rfl⟩
  le := ⟨fun x y e => (by simp only [Inj.mv]; rw [if_neg]; exact e; intro hx; rw [hx, h.j_none (Nat.le_refl _)] at e; cases e), fun _ _ e => e⟩
  n := by simp [Heap.push]
  size := by simp
  keep := fun _ hb _ _ => heap_alloc_lt w _ hb
  img1 := by
    intro b b' d e; simp only [Inj.mv] at e
    split at e
    · cases e; exact .inl (Nat.le_refl _)
    · exact .inr ⟨b, d, e⟩
  img2 := by
    intro b b' d cs' e e2; simp only [Inj.mv] at e; simp only [Heap.push] at e2
    split at e
    · cases e; exact .inl (Nat.le_refl _)
    · rename_i hb; rw [if_neg hb] at e2; exact .inr ⟨b, d, cs', e, e2⟩
  img3 := by
    intro b b' d k vs st pd e e2; simp only [Inj.mv] at e; simp only [Heap.push] at e2
    split at e
    · cases e; exact .inl (Nat.le_refl _)
    · rename_i hb; rw [if_neg hb] at e2; exact .inr ⟨b, d, k, vs, st, pd, e, e2⟩
  lp := fun _ r h => ⟨r, (heap_alloc_lt w _ (lt_of_heap h)).trans h⟩
end

/-- what the loops of a code must be known as. -/
def siteOk (nt : Nat) (c : Code) (an : Ann) : Prop := ∀ s ∈ sites c an, Sites.ok s.k 0 nt s.ps s.a s.b
theorem slotVals_get {S : St} : ∀ {sl : List Nat} {vs : List (Nat × HV)}, slotVals sl S = some vs → ∀ p ∈ vs, S.F.get p.1 = .v p.2
  | [], vs, h, p, hp => by simp [slotVals] at h; subst h; cases hp
  | t :: sl, vs, h, p, hp => by
    simp only [slotVals] at h
    split at h
    · rename_i x hx
      cases hq : slotVals sl S with
      | none => rw [hq] at h; cases h
      | some vs' =>
        rw [hq] at h
        cases h
        rcases List.mem_cons.1 hp with rfl | hp
        · exact hx
        · exact slotVals_get hq p hp
    · cases h
theorem ny_some {α : Type} {h : HV} {m : M α} {H : Heap} {n : Nat} {r : α × Heap} (e : ny h m H n = some r) : app m H n = some r ∧ ∀ l, h ≠ .yld l := by
  unfold ny at e
  split at e
  · exact (stk_some e).elim
  · rename_i hh; exact ⟨e, fun l hl => hh l hl⟩
end Go.Proofs.Ytolchnaegifckaa.HS
