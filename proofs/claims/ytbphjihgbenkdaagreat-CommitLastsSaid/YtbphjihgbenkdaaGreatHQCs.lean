/- Lemmas for the row. Conditions: none. -/
import Derived.Test.YtbphjihgbenkdaaGreatHQE
namespace Go.Proofs.YtbphjihgbenkdaaGreat.HQ
set_option linter.unusedVariables false
set_option linter.unusedSectionVars false
set_option linter.unusedSimpArgs false
open Go
set_option linter.unusedSectionVars false
variable [Sites]
section
variable {I : Inj} {H : Heap} {w : World}
theorem putObj_ne {l x : Nat} {o : Obj} (h : x ≠ l) : (w.putObj l o).heap[x]? = w.heap[x]? := by
 simp only [World.putObj]
 rw [Array.getElem?_setIfInBounds_ne (Ne.symm h)]
theorem putObj_eq {o : Obj} (x : Nat) (h : x < w.heap.size) : (w.putObj x o).heap[x]? = some o := by
 simp only [World.putObj]
 simp [h]
theorem putObj_size {l : Nat} {o : Obj} : (w.putObj l o).heap.size = w.heap.size := by simp [World.putObj]
theorem Rel.setS (h : Rel I H w) {l l' : Nat} {s s2 : Spc} {o2 : Obj} (hj : I.j l = some (l', 0)) (hg : H.get l = .spc s) (h2 : SRel I s2 o2) : Rel I (H.set l (.spc s2)) (w.putObj l' o2) := by
 obtain ⟨_, o0, hr, hL⟩ := h.spc l l' 0 s hj hg
 have hlt := lt_of_heap hr
 have hck : CK w (w.putObj l' o2) := fun x c el fr hx => ⟨c, fr, by rw [putObj_ne (fun hh => by subst hh; rw [hr] at hx; cases hx; exact hL.not_cells)]; exact hx, rfl⟩
 refine ⟨h.bnd, fun b b' d e => by rw [putObj_size]; exact h.img b b' d e, ?_, ?_, ?_, ?_, fun _ _ _ _ _ e1 e2 => h.tyK hck e1 e2, ?_⟩
 ·intro b b' d cs ro e1 e2
  simp only [Heap.set] at e2
  split at e2
  ·cases e2
  ·obtain ⟨c, el, fr, q1, q2⟩ := h.obj b b' d cs ro e1 e2
   have : b' ≠ l' := fun hh => by subst hh; rw [hr] at q1; cases q1; exact hL.not_cells
   exact ⟨c, el, fr, by rw [putObj_ne this]; exact q1, q2⟩
 ·intro b1 b2 b' d1 d2 c1 c2 ro e1 e2 e3 e4
  simp only [Heap.set] at e3 e4
  split at e3 <;> split at e4 <;> first | cases e3; done | cases e4; done | exact h.inj b1 b2 b' d1 d2 c1 c2 ro e1 e2 e3 e4
 ·intro b' s e
  obtain ⟨c, el, fr, q1, q2⟩ := h.sz b' s e
  have : b' ≠ l' := fun hh => by subst hh; rw [hr] at q1; cases q1; exact hL.not_cells
  exact ⟨c, el, fr, by rw [putObj_ne this]; exact q1, q2⟩
 ·intro b b' d s3 e1 e2
  simp only [Heap.set] at e2
  split at e2
  ·rename_i hb; subst hb; cases e2
   rw [hj] at e1; cases e1
   exact ⟨rfl, _, putObj_eq _ hlt, h2⟩
  ·rename_i hb
   obtain ⟨h0, r2, q1, q2⟩ := h.spc b b' d s3 e1 e2
   have : b' ≠ l' := fun hh => by
    subst hh
    exact hb (h.sinj b l b' d 0 s3 s e1 hj e2 hg)
   exact ⟨h0, r2, by rw [putObj_ne this]; exact q1, q2⟩
 ·intro b1 b2 b' d1 d2 s1 s3 e1 e2 e3 e4
  simp only [Heap.set] at e3 e4
  split at e3 <;> split at e4
  ·omega
  ·rename_i h1 h2; subst h1; exact h.sinj b1 b2 b' d1 d2 s s3 e1 e2 hg e4
  ·rename_i h1 h2; subst h2; exact h.sinj b1 b2 b' d1 d2 s1 s e1 e2 e3 hg
  ·exact h.sinj b1 b2 b' d1 d2 s1 s3 e1 e2 e3 e4
theorem Step.setS {l l' : Nat} {s : Spc} (hj : I.j l = some (l', 0)) (hg : H.get l = .spc s) (s2 : Spc) (o2 : Obj) (hlp : ∀ r, w.heap[l']? = some (.loop r) → ∃ r', o2 = .loop r') :
  Step I H w I (H.set l (.spc s2)) (w.putObj l' o2) where
 ext := ⟨rfl, rfl⟩
 le := .refl I
 n := Nat.le_refl _
 size := by rw [putObj_size]; exact Nat.le_refl _
 keep := by
  intro x _ _ hl
  refine putObj_ne fun hh => ?_
  subst hh; exact hl l 0 s hj hg
 img1 := fun x _ d e => .inr ⟨x, d, e⟩
 img2 := by
  intro x b' d cs e1 e2; simp only [Heap.set] at e2
  split at e2
  ·cases e2
  ·exact .inr ⟨x, d, cs, e1, e2⟩
 img3 := by
  intro x b' d s3 e1 e2; simp only [Heap.set] at e2
  split at e2
  ·rename_i hx; subst hx; exact .inr ⟨x, d, s, e1, hg⟩
  ·exact .inr ⟨x, d, s3, e1, e2⟩
 lp := fun x r h => by
  by_cases hx : x = l'
  ·subst hx; obtain ⟨r', e⟩ := hlp r h; exact ⟨r', by rw [putObj_eq _ (lt_of_heap h), e]⟩
  ·exact ⟨r, (putObj_ne hx).trans h⟩
theorem Rel.newS (h : Rel I H w) {s : Spc} {o : Obj} (hL : SRel I s o) : Rel (I.mv H.n w.heap.size) (H.push (.spc s)) (w.alloc o) := by
 have hle : I.le (I.mv H.n w.heap.size) := ⟨fun x y e => (by simp only [Inj.mv]; rw [if_neg]; exact e; intro hx; rw [hx, h.j_none (Nat.le_refl _)] at e; cases e), fun _ _ e => e⟩
 have gm : ∀ x, (H.push (.spc s)).get x = if x = H.n then .spc s else H.get x := fun _ => rfl
 refine ⟨?_, ?_, ?_, ?_, ?_, ?_, ?_, ?_⟩
 ·intro x y e; simp only [Inj.mv] at e; simp only [Heap.push]
  split at e
  ·omega
  ·have := h.bnd x y e; omega
 ·intro x b'' d e; simp only [Inj.mv] at e; simp
  split at e
  ·cases e; omega
  ·have := h.img x b'' d e; omega
 ·intro x b'' d cs' ro e1 e2
  simp only [Inj.mv] at e1; rw [gm] at e2
  split at e1
  ·rename_i hx; rw [if_pos hx] at e2; cases e2
  ·rename_i hx; rw [if_neg hx] at e2
   obtain ⟨c', el', fr, q1, q2, q3⟩ := h.obj x b'' d cs' ro e1 e2
   exact ⟨c', el', fr, by rw [heap_alloc_lt w _ (lt_of_heap q1)]; exact q1, fun i y hy => by
    obtain ⟨v, p1, p2⟩ := q2 i y hy; exact ⟨v, p1, p2.mono hle⟩, q3⟩
 ·intro b1 b2 b'' d1 d2 c1 c2' ro e1 e2 e3 e4
  simp only [Inj.mv] at e1 e2; rw [gm] at e3 e4
  split at e1
  ·rename_i hx; rw [if_pos hx] at e3; cases e3
  split at e2
  ·rename_i hx; rw [if_pos hx] at e4; cases e4
  rename_i h1 h2
  rw [if_neg h1] at e3; rw [if_neg h2] at e4
  exact h.inj b1 b2 b'' d1 d2 c1 c2' ro e1 e2 e3 e4
 ·intro x s e
  obtain ⟨c', el', fr, h1, h2⟩ := h.sz x s e
  exact ⟨c', el', fr, by rw [heap_alloc_lt w _ (lt_of_heap h1)]; exact h1, h2⟩
 ·intro x b'' d s2 e1 e2
  simp only [Inj.mv] at e1; rw [gm] at e2
  split at e1
  ·rename_i hx; rw [if_pos hx] at e2; cases e1; cases e2
   exact ⟨rfl, o, heap_alloc_eq _ _, hL.mono hle⟩
  ·rename_i hx; rw [if_neg hx] at e2
   obtain ⟨h0, r2, q1, q2⟩ := h.spc x b'' d s2 e1 e2
   exact ⟨h0, r2, by rw [heap_alloc_lt w _ (lt_of_heap q1)]; exact q1, q2.mono hle⟩
 ·intro x b'' d t2 s2 e1 e2
  simp only [Inj.mv] at e1
  have e2' : (if x = H.n then none else H.ty x) = some (t2, s2) := e2
  split at e1
  ·rename_i hx; rw [if_pos hx] at e2'; cases e2'
  ·rename_i hx; rw [if_neg hx] at e2'; exact h.tyK (CK.alloc w o) e1 e2'
 ·intro b1 b2 b'' d1 d2 s1 s2 e1 e2 e3 e4
  simp only [Inj.mv] at e1 e2; rw [gm] at e3 e4
  split at e1 <;> split at e2
  ·omega
  ·rename_i h1 h2; cases e1; have := h.img b2 _ d2 e2; omega
  ·rename_i h1 h2; cases e2; have := h.img b1 _ d1 e1; omega
  ·rename_i h1 h2
   rw [if_neg h1] at e3; rw [if_neg h2] at e4
   exact h.sinj b1 b2 b'' d1 d2 s1 s2 e1 e2 e3 e4
theorem Step.newS (h : Rel I H w) (s : Spc) (o : Obj) : Step I H w (I.mv H.n w.heap.size) (H.push (.spc s)) (w.alloc o) where
 ext := ⟨rfl, rfl⟩
 le := ⟨fun x y e => (by simp only [Inj.mv]; rw [if_neg]; exact e; intro hx; rw [hx, h.j_none (Nat.le_refl _)] at e; cases e), fun _ _ e => e⟩
 n := by simp [Heap.push]
 size := by simp
 keep := fun _ hb _ _ => heap_alloc_lt w _ hb
 img1 := by
  intro b b' d e; simp only [Inj.mv] at e
  split at e
  ·cases e; exact .inl (Nat.le_refl _)
  ·exact .inr ⟨b, d, e⟩
 img2 := by
  intro b b' d cs' e e2; simp only [Inj.mv] at e; simp only [Heap.push] at e2
  split at e
  ·cases e; exact .inl (Nat.le_refl _)
  ·rename_i hb; rw [if_neg hb] at e2; exact .inr ⟨b, d, cs', e, e2⟩
 img3 := by
  intro b b' d s2 e e2; simp only [Inj.mv] at e; simp only [Heap.push] at e2
  split at e
  ·cases e; exact .inl (Nat.le_refl _)
  ·rename_i hb; rw [if_neg hb] at e2; exact .inr ⟨b, d, s2, e, e2⟩
 lp := fun _ r h => ⟨r, (heap_alloc_lt w _ (lt_of_heap h)).trans h⟩
theorem Rel.dead (h : Rel I H w) {w' : World} {b b' d : Nat} {cs : List HV} {c c2 : Array Value} {el : TypeId} {fr fr2 : Nat × Nat} (hj : I.j b = some (b', d)) (hg : H.get b = .cells cs false)
  (hc0 : w.heap[b']? = some (.cells c el fr)) (hs : c2.size = c.size) (hw : w'.heap[b']? = some (.cells c2 el fr2)) (hn : ∀ x, x ≠ b' → w'.heap[x]? = w.heap[x]?) (hsz : w'.heap.size = w.heap.size) : Rel I (H.set b .dead) w' where
 bnd := h.bnd
 img := fun x b'' d e => by rw [hsz]; exact h.img x b'' d e
 obj := by
  intro x b'' d' cs' ro e1 e2; simp only [Heap.set] at e2
  split at e2
  ·cases e2
  ·rename_i hx
   obtain ⟨c', el', fr', h1, h2, h3⟩ := h.obj x b'' d' cs' ro e1 e2
   by_cases hb : b'' = b'
   ·subst hb; exact absurd (h.inj b x _ d d' cs cs' ro hj e1 hg e2).symm hx
   ·exact ⟨c', el', fr', by rw [hn _ hb]; exact h1, h2, h3⟩
 inj := by
  intro b1 b2 b'' d1 d2 c1 c2 ro e1 e2 e3 e4; simp only [Heap.set] at e3 e4
  split at e3 <;> split at e4 <;> first | cases e3; done | cases e4; done | exact h.inj b1 b2 b'' d1 d2 c1 c2 ro e1 e2 e3 e4
 sz := by
  intro x s e
  obtain ⟨c', el', fr', h1, h2⟩ := h.sz x s e
  by_cases hb : x = b'
  ·subst hb; rw [hc0] at h1; cases h1; exact ⟨c2, el, fr2, hw, by rw [hs]; exact h2⟩
  ·exact ⟨c', el', fr', by rw [hn _ hb]; exact h1, h2⟩
 spc := by
  intro x b'' d' s e1 e2; simp only [Heap.set] at e2
  split at e2
  ·cases e2
  ·obtain ⟨h0, r, h1, h2⟩ := h.spc x b'' d' s e1 e2
   have hb : b'' ≠ b' := fun hh => by subst hh; rw [hc0] at h1; cases h1; exact h2.not_cells
   exact ⟨h0, r, by rw [hn _ hb]; exact h1, h2⟩
 ty := fun _ _ _ _ _ e1 e2 => h.tyK (CK.one hc0 hs hw hn) e1 e2
 sinj := by
  intro b1 b2 b'' d1 d2 s1 s2 e1 e2 e3 e4; simp only [Heap.set] at e3 e4
  split at e3 <;> split at e4 <;> first | cases e3; done | cases e4; done | exact h.sinj b1 b2 b'' d1 d2 s1 s2 e1 e2 e3 e4
theorem Step.dead {w' : World} {b b' d : Nat} {cs : List HV} {c : Array Value} {el : TypeId} {fr : Nat × Nat} (hc0 : w.heap[b']? = some (.cells c el fr)) (hj : I.j b = some (b', d)) (hg : H.get b = .cells cs false)
  (hn : ∀ x, x ≠ b' → w'.heap[x]? = w.heap[x]?) (hsz : w'.heap.size = w.heap.size) (hx : w'.os = w.os ∧ w'.output = w.output) : Step I H w I (H.set b .dead) w' where
 ext := hx
 le := .refl I
 n := Nat.le_refl _
 size := by omega
 keep := by
  intro x _ hx' _
  by_cases hb : x = b'
  ·subst hb; exact absurd hg (hx' b d cs hj)
  ·exact hn x hb
 img1 := fun x _ d e => .inr ⟨x, d, e⟩
 img2 := by
  intro x b'' d' cs' e1 e2; simp only [Heap.set] at e2
  split at e2
  ·cases e2
  ·exact .inr ⟨x, d', cs', e1, e2⟩
 img3 := by
  intro x b'' d' s e1 e2; simp only [Heap.set] at e2
  split at e2
  ·cases e2
  ·exact .inr ⟨x, d', s, e1, e2⟩
 lp := fun x r h => ⟨r, by rw [hn x (fun hh => by rw [hh, hc0] at h; cases h)]; exact h⟩
theorem heap_freeze {b i k : Nat} {c : Array Value} {el : TypeId} {fr : Nat × Nat} (h : w.heap[b]? = some (.cells c el fr)) : ∃ fr2, (w.freeze ⟨b, i, none⟩ k).heap[b]? = some (.cells c el fr2) := by
 unfold World.freeze; split
 ·exact ⟨fr, h⟩
 ·simp [Array.getElem?_modify, h]
theorem heap_freeze_ne {a : Addr} {k x : Nat} (h : x ≠ a.block) : (w.freeze a k).heap[x]? = w.heap[x]? := by
 unfold World.freeze; split
 ·rfl
 ·simp [Array.getElem?_modify]
  intro e; exact absurd e.symm h
theorem freeze_ext {a : Addr} {k : Nat} : (w.freeze a k).heap.size = w.heap.size ∧ (w.freeze a k).os = w.os ∧ (w.freeze a k).output = w.output := by
 unfold World.freeze; split <;> simp
end
end Go.Proofs.YtbphjihgbenkdaaGreat.HQ
