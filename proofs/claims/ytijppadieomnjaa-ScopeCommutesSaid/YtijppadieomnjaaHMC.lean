/- What an operation does to memory, in the relation. Conditions: none (lemmas). -/
import Derived.Test.YtijppadieomnjaaHMB
import Derived.Laws.Entries
import Derived.ChangeKeysEq
namespace Go.Proofs.Ytijppadieomnjaa.HM
open Go
set_option linter.unusedSectionVars false

/-! worlds -/
theorem cell_of {w : World} {b i : Nat} {c : Array Value} {el : TypeId} {fr : Nat × Nat} (h : w.heap[b]? = some (.cells c el fr)) : w.cell? ⟨b, i, none⟩ = c[i]? := by
  simp [World.cell?, h]
theorem frozen_of {w : World} {b i : Nat} {c : Array Value} {el : TypeId} (h : w.heap[b]? = some (.cells c el (0, 0))) : w.frozen? ⟨b, i, none⟩ = false := by
  simp [World.frozen?, h]
theorem lt_of_heap {w : World} {b : Nat} {o : Obj} (h : w.heap[b]? = some o) : b < w.heap.size := (Array.getElem?_eq_some_iff.1 h).1
theorem heap_alloc_lt (w : World) (o : Obj) {x : Nat} (h : x < w.heap.size) : (w.alloc o).heap[x]? = w.heap[x]? := by
  show (w.heap.push o)[x]? = _
  rw [Array.getElem?_push, if_neg (by omega)]
theorem heap_alloc_eq (w : World) (o : Obj) : (w.alloc o).heap[w.heap.size]? = some o := by
  show (w.heap.push o)[w.heap.size]? = _
  simp
theorem heap_setCell {w : World} {b i : Nat} {c : Array Value} {el : TypeId} {fr : Nat × Nat} (v : Value) (h : w.heap[b]? = some (.cells c el fr)) :
    (w.setCell ⟨b, i, none⟩ v).heap[b]? = some (.cells (c.setIfInBounds i v) el fr) := by
  simp [World.setCell, Array.getElem?_modify, h]
theorem heap_setCell_ne {w : World} {a : Addr} {x : Nat} (v : Value) (h : x ≠ a.block) : (w.setCell a v).heap[x]? = w.heap[x]? := by
  simp [World.setCell, Array.getElem?_modify]
  intro e; exact absurd e.symm h
theorem setCells_ne {b : Nat} : ∀ (vs : List Value) (o : Nat) (w : World) (x : Nat), x ≠ b → (w.setCells b o vs).heap[x]? = w.heap[x]?
  | [], _, _, _, _ => rfl
  | v :: r, o, w, x, h => by rw [World.setCells, setCells_ne r (o + 1) _ x h, heap_setCell_ne v h]
theorem setCells_size {b : Nat} : ∀ (vs : List Value) (o : Nat) (w : World), (w.setCells b o vs).heap.size = w.heap.size
  | [], _, _ => rfl
  | v :: r, o, w => by rw [World.setCells, setCells_size r (o + 1)]; simp
theorem setCells_ext {b : Nat} : ∀ (vs : List Value) (o : Nat) (w : World), (w.setCells b o vs).os = w.os ∧ (w.setCells b o vs).output = w.output
  | [], _, _ => ⟨rfl, rfl⟩
  | v :: r, o, w => by
    obtain ⟨h1, h2⟩ := setCells_ext (b := b) r (o + 1) (w.setCell ⟨b, o, none⟩ v)
    exact ⟨h1, h2⟩
theorem setCells_eq {b : Nat} : ∀ (vs : List Value) (o : Nat) (w : World) (c : Array Value) (el : TypeId) (fr : Nat × Nat), w.heap[b]? = some (.cells c el fr) →
    ∃ c2 : Array Value, (w.setCells b o vs).heap[b]? = some (.cells c2 el fr) ∧ c2.size = c.size ∧ ∀ i, i < c.size → c2[i]? = if o ≤ i ∧ i < o + vs.length then vs[i - o]? else c[i]?
  | [], o, w, c, el, fr, h => ⟨c, h, rfl, fun i _ => by rw [if_neg (by simp only [List.length_nil]; omega)]⟩
  | v :: r, o, w, c, el, fr, h => by
    obtain ⟨c2, h1, h2, h3⟩ := setCells_eq r (o + 1) _ _ el fr (heap_setCell (i := o) v h)
    refine ⟨c2, h1, by simpa using h2, fun i hi => ?_⟩
    rw [h3 i (by simpa using hi)]
    by_cases e : o + 1 ≤ i ∧ i < o + 1 + r.length
    · rw [if_pos e, if_pos (by simp only [List.length_cons]; omega)]
      rw [show i - o = (i - (o + 1)) + 1 by omega, List.getElem?_cons_succ]
    · rw [if_neg e]
      by_cases e2 : i = o
      · subst e2; simp [hi]
      · rw [if_neg (by simp only [List.length_cons]; omega), Array.getElem?_setIfInBounds, if_neg (Ne.symm e2)]

/-! the abstract heap and new memory -/
def Inj.up (I : Inj) (b b' s : Nat) : Inj := { j := fun x => if x = b then some (b', 0) else I.j x, sz := fun x => if x = b' then some s else I.sz x }

section
variable [Sites]
variable {I : Inj} {H : Heap} {w : World}
theorem Rel.j_none (h : Rel I H w) {b : Nat} (hb : H.n ≤ b) : I.j b = none := by
  cases e : I.j b with
  | none => rfl
  | some x => have := h.bnd b x e; omega
theorem Rel.sz_none (h : Rel I H w) {b : Nat} (hb : w.heap.size ≤ b) : I.sz b = none := by
  cases e : I.sz b with
  | none => rfl
  | some x => obtain ⟨c, el, fr, h1, _⟩ := h.sz b x e; have := lt_of_heap h1; omega
theorem Rel.up_le (h : Rel I H w) (s : Nat) : I.le (I.up H.n w.heap.size s) where
  j := by intro b x e; simp only [Inj.up]; rw [if_neg]; exact e; intro hb; rw [hb, h.j_none (Nat.le_refl _)] at e; cases e
  sz := by intro b x e; simp only [Inj.up]; rw [if_neg]; exact e; intro hb; rw [hb, h.sz_none (Nat.le_refl _)] at e; cases e

/-- the world has one more block, that is none of the abstract heap's. -/
theorem Rel.more (h : Rel I H w) (o : Obj) : Rel I H (w.alloc o) where
  bnd := h.bnd
  img := fun b b' d e => by have := h.img b b' d e; simp; omega
  obj := fun b b' d cs ro e1 e2 => by
    obtain ⟨c, el, fr, h1, h2⟩ := h.obj b b' d cs ro e1 e2
    exact ⟨c, el, fr, by rw [heap_alloc_lt w o (lt_of_heap h1)]; exact h1, h2⟩
  inj := h.inj
  sz := fun b' s e => by obtain ⟨c, el, fr, h1, h2⟩ := h.sz b' s e; exact ⟨c, el, fr, by rw [heap_alloc_lt w o (lt_of_heap h1)]; exact h1, h2⟩
  loop := fun b b' d k vs st pd e1 e2 => by
    obtain ⟨h0, r, h1, h2⟩ := h.loop b b' d k vs st pd e1 e2
    exact ⟨h0, r, by rw [heap_alloc_lt w o (lt_of_heap h1)]; exact h1, h2⟩
  linj := h.linj
theorem Step.more (I : Inj) (H : Heap) (w : World) (o : Obj) : Step I H w I H (w.alloc o) :=
  ⟨⟨rfl, rfl⟩, .refl I, Nat.le_refl _, by simp, fun _ hb _ _ => heap_alloc_lt w o hb, fun b b' d h => .inr ⟨b, d, h⟩, fun b b' d cs h e => .inr ⟨b, d, cs, h, e⟩, fun b _ d k vs st pd h e => .inr ⟨b, d, k, vs, st, pd, h, e⟩⟩

theorem Rel.drew (h : Rel I H w) : Rel I H w.drew := ⟨h.bnd, h.img, h.obj, h.inj, h.sz, h.loop, h.linj⟩
theorem Step.drew (I : Inj) (H : Heap) (w : World) : Step I H w I H w.drew := ⟨⟨rfl, rfl⟩, .refl I, Nat.le_refl _, Nat.le_refl _, fun _ _ _ _ => rfl, fun b _ d h => .inr ⟨b, d, h⟩, fun b _ d cs h e => .inr ⟨b, d, cs, h, e⟩, fun b _ d k vs st pd h e => .inr ⟨b, d, k, vs, st, pd, h, e⟩⟩

/-- a new block on both sides. -/
theorem Rel.new (h : Rel I H w) {cs : List HV} {c : Array Value} (el : TypeId) (hc : ∀ (i : Nat) (x : HV), cs[i]? = some x → ∃ v, c[i]? = some v ∧ VC I x v) :
    Rel (I.up H.n w.heap.size c.size) (H.push (.cells cs false)) (w.alloc (.cells c el)) where
  bnd := by
    intro b x e; simp only [Inj.up] at e; simp only [Heap.push]
    split at e
    · omega
    · have := h.bnd b x e; omega
  img := by
    intro b b' d e; simp only [Inj.up] at e; simp
    split at e
    · cases e; omega
    · have := h.img b b' d e; omega
  obj := by
    intro b b' d cs' ro e1 e2
    simp only [Inj.up] at e1; simp only [Heap.push] at e2
    split at e1
    · rename_i hb
      rw [if_pos hb] at e2; cases e1; cases e2
      refine ⟨c, el, (0, 0), heap_alloc_eq _ _, fun i x hx => ?_, fun _ => ⟨rfl, rfl⟩⟩
      obtain ⟨v, h1, h2⟩ := hc i x hx
      exact ⟨v, by simpa using h1, h2.mono (h.up_le _)⟩
    · rename_i hb
      rw [if_neg hb] at e2
      obtain ⟨c', el', fr, h1, h2, h3⟩ := h.obj b b' d cs' ro e1 e2
      refine ⟨c', el', fr, by rw [heap_alloc_lt w _ (lt_of_heap h1)]; exact h1, fun i x hx => ?_, h3⟩
      obtain ⟨v, g1, g2⟩ := h2 i x hx
      exact ⟨v, g1, g2.mono (h.up_le _)⟩
  inj := by
    intro b1 b2 b' d1 d2 c1 c2 ro e1 e2 e3 e4
    simp only [Inj.up] at e1 e2; simp only [Heap.push] at e3 e4
    split at e1 <;> split at e2
    · omega
    · cases e1; have := h.img b2 _ d2 e2; omega
    · cases e2; have := h.img b1 _ d1 e1; omega
    · rename_i n1 n2
      rw [if_neg n1] at e3; rw [if_neg n2] at e4
      exact h.inj b1 b2 b' d1 d2 c1 c2 ro e1 e2 e3 e4
  sz := by
    intro b' s e; simp only [Inj.up] at e
    split at e
    · rename_i hb; subst hb; cases e; exact ⟨c, el, (0, 0), heap_alloc_eq _ _, rfl⟩
    · obtain ⟨c', el', fr, h1, h2⟩ := h.sz b' s e
      exact ⟨c', el', fr, by rw [heap_alloc_lt w _ (lt_of_heap h1)]; exact h1, h2⟩
  loop := by
    intro b b' d k vs st pd e1 e2
    simp only [Inj.up] at e1; simp only [Heap.push] at e2
    split at e1
    · rename_i hb; rw [if_pos hb] at e2; cases e2
    · rename_i hb; rw [if_neg hb] at e2
      obtain ⟨h0, r, h1, h2⟩ := h.loop b b' d k vs st pd e1 e2
      exact ⟨h0, r, by rw [heap_alloc_lt w _ (lt_of_heap h1)]; exact h1, h2.mono (h.up_le _)⟩
  linj := by
    intro b1 b2 b' d1 d2 k1 vs1 st1 pd1 k2 vs2 st2 pd2 e1 e2 e3 e4
    simp only [Inj.up] at e1 e2; simp only [Heap.push] at e3 e4
    split at e1 <;> split at e2
    · omega
    · rename_i n1 n2; rw [if_pos n1] at e3; cases e3
    · rename_i n1 n2; rw [if_pos n2] at e4; cases e4
    · rename_i n1 n2
      rw [if_neg n1] at e3; rw [if_neg n2] at e4
      exact h.linj b1 b2 b' d1 d2 k1 vs1 st1 pd1 k2 vs2 st2 pd2 e1 e2 e3 e4
theorem Step.new (h : Rel I H w) (cs : List HV) (c : Array Value) (el : TypeId) :
    Step I H w (I.up H.n w.heap.size c.size) (H.push (.cells cs false)) (w.alloc (.cells c el)) where
  ext := ⟨rfl, rfl⟩
  le := h.up_le _
  n := by simp [Heap.push]
  size := by simp
  keep := fun _ hb _ _ => heap_alloc_lt w _ hb
  img1 := by
    intro b b' d e; simp only [Inj.up] at e
    split at e
    · cases e; exact .inl (Nat.le_refl _)
    · exact .inr ⟨b, d, e⟩
  img2 := by
    intro b b' d cs' e e2; simp only [Inj.up] at e; simp only [Heap.push] at e2
    split at e
    · cases e; exact .inl (Nat.le_refl _)
    · rename_i hb; rw [if_neg hb] at e2; exact .inr ⟨b, d, cs', e, e2⟩
  img3 := by
    intro b b' d k vs st pd e e2; simp only [Inj.up] at e; simp only [Heap.push] at e2
    split at e
    · cases e; exact .inl (Nat.le_refl _)
    · rename_i hb; rw [if_neg hb] at e2; exact .inr ⟨b, d, k, vs, st, pd, e, e2⟩

/-- a block's cells become others. -/
theorem Rel.put (h : Rel I H w) {w' : World} {b b' : Nat} {cs cs2 : List HV} {c2 : Array Value} {el : TypeId} (hj : I.j b = some (b', 0)) (hg : H.get b = .cells cs false)
    {c : Array Value} (hc0 : w.heap[b']? = some (.cells c el (0, 0))) (hs : c2.size = c.size) (hw : w'.heap[b']? = some (.cells c2 el (0, 0))) (hn : ∀ x, x ≠ b' → w'.heap[x]? = w.heap[x]?) (hsz : w'.heap.size = w.heap.size)
    (hc : ∀ (i : Nat) (x : HV), cs2[i]? = some x → ∃ v, c2[i]? = some v ∧ VC I x v) : Rel I (H.set b (.cells cs2 false)) w' where
  bnd := h.bnd
  img := fun x b'' d e => by rw [hsz]; exact h.img x b'' d e
  obj := by
    intro x b'' d cs' ro e1 e2
    simp only [Heap.set] at e2
    split at e2
    · rename_i hx; subst hx; cases e2
      rw [hj] at e1; cases e1
      exact ⟨c2, el, (0, 0), hw, fun i y hy => by simpa using hc i y hy, fun _ => ⟨rfl, rfl⟩⟩
    · rename_i hx
      obtain ⟨c', el', fr, h1, h2, h3⟩ := h.obj x b'' d cs' ro e1 e2
      by_cases hb : b'' = b'
      · subst hb; exact absurd (h.inj b x _ 0 d cs cs' ro hj e1 hg e2).symm hx
      · exact ⟨c', el', fr, by rw [hn _ hb]; exact h1, h2, h3⟩
  inj := by
    intro b1 b2 b'' d1 d2 c1 c2' ro e1 e2 e3 e4
    simp only [Heap.set] at e3 e4
    split at e3 <;> split at e4
    · omega
    · rename_i x1 x2; subst x1; exact h.inj b1 b2 b'' d1 d2 cs c2' ro e1 e2 hg e4
    · rename_i x1 x2; subst x2; exact h.inj b1 b2 b'' d1 d2 c1 cs false e1 e2 e3 hg
    · exact h.inj b1 b2 b'' d1 d2 c1 c2' ro e1 e2 e3 e4
  sz := by
    intro x s e
    obtain ⟨c', el', fr, h1, h2⟩ := h.sz x s e
    by_cases hb : x = b'
    · subst hb; rw [hc0] at h1; cases h1; exact ⟨c2, el, (0, 0), hw, by rw [hs]; exact h2⟩
    · exact ⟨c', el', fr, by rw [hn _ hb]; exact h1, h2⟩
  loop := by
    intro x b'' d k vs st pd e1 e2
    simp only [Heap.set] at e2
    split at e2
    · cases e2
    · obtain ⟨h0, r, h1, h2⟩ := h.loop x b'' d k vs st pd e1 e2
      have hb : b'' ≠ b' := fun hh => by subst hh; rw [hc0] at h1; cases h1
      exact ⟨h0, r, by rw [hn _ hb]; exact h1, h2⟩
  linj := by
    intro b1 b2 b'' d1 d2 k1 vs1 st1 pd1 k2 vs2 st2 pd2 e1 e2 e3 e4
    simp only [Heap.set] at e3 e4
    split at e3
    · cases e3
    split at e4
    · cases e4
    · exact h.linj b1 b2 b'' d1 d2 k1 vs1 st1 pd1 k2 vs2 st2 pd2 e1 e2 e3 e4
theorem Step.put {w' : World} {b b' : Nat} {cs : List HV} (cs2 : List HV) (hj : I.j b = some (b', 0)) (hg : H.get b = .cells cs false)
    (hn : ∀ x, x ≠ b' → w'.heap[x]? = w.heap[x]?) (hsz : w'.heap.size = w.heap.size) (hx : w'.os = w.os ∧ w'.output = w.output) : Step I H w I (H.set b (.cells cs2 false)) w' where
  ext := hx
  le := .refl I
  n := Nat.le_refl _
  size := by omega
  keep := by
    intro x _ hx' _
    by_cases hb : x = b'
    · subst hb; exact absurd hg (hx' b 0 cs hj)
    · exact hn x hb
  img1 := fun x _ d e => .inr ⟨x, d, e⟩
  img2 := by
    intro x b'' d cs' e1 e2; simp only [Heap.set] at e2
    split at e2
    · rename_i hx; subst hx; exact .inr ⟨x, d, cs, e1, hg⟩
    · exact .inr ⟨x, d, cs', e1, e2⟩
  img3 := by
    intro x b'' d k vs st pd e1 e2; simp only [Heap.set] at e2
    split at e2
    · cases e2
    · exact .inr ⟨x, d, k, vs, st, pd, e1, e2⟩
end
end Go.Proofs.Ytijppadieomnjaa.HM
