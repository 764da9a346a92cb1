/- Lemmas for the row. Conditions: none. -/
import Derived.Test.YtbphjihgbenkdaaGreatHQSr
import Derived.OpenShut
namespace Go.Proofs.YtbphjihgbenkdaaGreat.HQ
set_option linter.unusedVariables false
set_option linter.unusedSectionVars false
set_option linter.unusedSimpArgs false
open Go
set_option linter.unusedSectionVars false
variable [Sites]
def flatFs (P : Program) (g : TypeId → Bool) : Nat → List Field → Nat → Bool
 | off, [], tot => Nat.beq off tot
 | off, f :: r, tot => Nat.beq f.offset off && g f.type && flatFs P g (off + sizeT P f.type) r tot
def flatT (P : Program) : Nat → TypeId → Bool
 | 0, _ => false
 | n + 1, t => match P.underlying t with
  | some .bool => true
  | some (.int _) => true
  | some .string => true
  | some (.slice e) => flatT P n e && Nat.ble 1 (sizeT P e)
  | some (.struct fs) => flatFs P (flatT P n) 0 fs.toList (sizeT P t)
  | some (.array m e) => flatT P n e && Nat.beq (sizeT P t) (m * sizeT P e)
  | _ => false
def Ty (P : Program) (H : Heap) : Nat → TypeId → List HV → Prop
 | 0, _, _ => False
 | n + 1, t, cs => match P.underlying t with
  | some .bool => ∃ b, cs = [.bool b]
  | some (.int k) => ∃ x, cs = [.int k x] ∧ k.min ≤ x ∧ x ≤ k.max
  | some .string => ∃ s : ByteArray, cs = [.str s] ∧ s.size ≤ maxLen
  | some (.slice e) => cs = [.sl ⟨none, 0, 0, none⟩] ∨ ∃ b len cap obj, cs = [.sl ⟨some (b, 0), len, cap, none⟩] ∧ H.get b = .cells obj true ∧ obj.length = cap * sizeT P e ∧ len ≤ cap ∧ cap ≤ maxLen ∧
    ∀ i, i < cap → Ty P H n e ((obj.drop (i * sizeT P e)).take (sizeT P e))
  | some (.struct fs) => cs.length = sizeT P t ∧ ∀ (i : Nat) (f : Field), fs[i]? = some f → Ty P H n f.type ((cs.drop f.offset).take (sizeT P f.type))
  | some (.array m e) => cs.length = m * sizeT P e ∧ ∀ i, i < m → Ty P H n e ((cs.drop (i * sizeT P e)).take (sizeT P e))
  | _ => False
structure Ext (I : Inj) (H : Heap) (I' : Inj) (H' : Heap) : Prop where
 le : I.le I'
 n : H.n ≤ H'.n
 get : ∀ b cs ro, H.get b = .cells cs ro → H'.get b = .cells cs ro
 ty : ∀ b, b < H.n → H'.ty b = H.ty b
theorem Ext.refl (I : Inj) (H : Heap) : Ext I H I H := ⟨.refl I, Nat.le_refl _, fun _ _ _ h => h, fun _ _ => rfl⟩
theorem Ext.trans {I1 I2 I3 : Inj} {H1 H2 H3 : Heap} (a : Ext I1 H1 I2 H2) (b : Ext I2 H2 I3 H3) : Ext I1 H1 I3 H3 := ⟨a.le.trans b.le, Nat.le_trans a.n b.n, fun x cs ro h => b.get x cs ro (a.get x cs ro h), fun x hx => (b.ty x (Nat.lt_of_lt_of_le hx a.n)).trans (a.ty x hx)⟩
structure Still (w : World) (I : Inj) (H : Heap) : Prop where
 rel : Rel I H w
 ro : ∀ b cs ro, H.get b = .cells cs ro → ro = true ∧ b < H.n
 nol : ∀ b s, H.get b ≠ .spc s
theorem Ty.mono {P : Program} {I I' : Inj} {H H' : Heap} (h : Ext I H I' H') : ∀ (n : Nat) {t : TypeId} {cs : List HV}, Ty P H n t cs → Ty P H' n t cs
 | 0, _, _, ht => ht
 | n + 1, t, cs, ht => by
  unfold Ty at ht ⊢
  split at ht
  ·exact ht
  ·exact ht
  ·exact ht
  ·rcases ht with ht | ⟨b, len, cap, obj, h1, h2, h3, h4, h5, h6⟩
   ·exact .inl ht
   ·exact .inr ⟨b, len, cap, obj, h1, h.get _ _ _ h2, h3, h4, h5, fun i hi => Ty.mono h n (h6 i hi)⟩
  ·exact ⟨ht.1, fun i f hf => Ty.mono h n (ht.2 i f hf)⟩
  ·exact ⟨ht.1, fun i hi => Ty.mono h n (ht.2 i hi)⟩
  ·exact ht
section
variable {P : Program} {w : World}
def Opens (P : Program) (w : World) (n : Nat) (t : TypeId) (cs : List Value) : Prop :=
 ∀ I H, Still w I H → ∃ I' H' hs, Still w I' H' ∧ Ext I H I' H' ∧ VRs I' hs cs ∧ (∀ h ∈ hs, h.sc = true) ∧ Ty P H' n t hs
theorem opens_all {n : Nat} {ty : Nat → TypeId} {cs : Nat → List Value} : ∀ (k : Nat), (∀ j, j < k → Opens P w n (ty j) (cs j)) → ∀ I H, Still w I H →
  ∃ (I' : Inj) (H' : Heap) (hs : Nat → List HV), Still w I' H' ∧ Ext I H I' H' ∧ ∀ j, j < k → VRs I' (hs j) (cs j) ∧ (∀ h ∈ hs j, h.sc = true) ∧ Ty P H' n (ty j) (hs j)
 | 0, _, I, H, hg => ⟨I, H, fun _ => [], hg, .refl I H, fun j hj => by omega⟩
 | k + 1, h, I, H, hg => by
  obtain ⟨I1, H1, hs, g1, e1, a1⟩ := opens_all k (fun j hj => h j (by omega)) I H hg
  obtain ⟨I2, H2, x, g2, e2, r2, s2, t2⟩ := h k (by omega) I1 H1 g1
  refine ⟨I2, H2, fun j => if j = k then x else hs j, g2, e1.trans e2, fun j hj => ?_⟩
  by_cases hk : j = k
  ·subst hk; simp only [if_true]; exact ⟨r2, s2, t2⟩
  ·simp only [if_neg hk]
   obtain ⟨q1, q2, q3⟩ := a1 j (by omega)
   exact ⟨q1.mono e2.le, q2, q3.mono e2⟩
theorem joined {I : Inj} {cs : List Value} {hs : Nat → List HV} {o s : Nat → Nat} (h0 : o 0 = 0) (hs1 : ∀ j, o (j + 1) = o j + s j) : ∀ (k : Nat), o k ≤ cs.length →
  (∀ j, j < k → VRs I (hs j) ((cs.drop (o j)).take (s j)) ∧ ∀ h ∈ hs j, h.sc = true) →
  ∃ all, VRs I all (cs.take (o k)) ∧ (∀ h ∈ all, h.sc = true) ∧ ∀ j, j < k → (all.drop (o j)).take (s j) = hs j
 | 0, _, _ => ⟨[], by rw [h0]; simp; exact .nil, by simp, fun j hj => by omega⟩
 | k + 1, hk, h => by
  have hle : o k ≤ cs.length := by have := hs1 k; omega
  obtain ⟨all, a1, a2, a3⟩ := joined h0 hs1 k hle (fun j hj => h j (by omega))
  obtain ⟨b1, b2⟩ := h k (by omega)
  have hlen : all.length = o k := by have := a1.length; simp at this; omega
  have hlx : (hs k).length = s k := by have := b1.length; have := hs1 k; simp at *; omega
  have hmono : ∀ i j, i ≤ j → o i ≤ o j := by
   intro i j hij
   induction hij with
   | refl => exact Nat.le_refl _
   | @step m _ ih => have := hs1 m; show o i ≤ o (m + 1); omega
  refine ⟨all ++ hs k, ?_, ?_, fun j hj => ?_⟩
  ·rw [hs1, List.take_add]; exact a1.append b1
  ·intro x hx
   rcases List.mem_append.1 hx with hx | hx
   ·exact a2 x hx
   ·exact b2 x hx
  ·by_cases he : j = k
   ·subst he
    rw [← hlen, List.drop_left, ← hlx, List.take_length]
   ·have h1 : o j + s j ≤ all.length := by
     rw [hlen, ← hs1]; exact hmono _ _ (by omega)
    rw [List.drop_append_of_le_length (by omega), List.take_append_of_le_length (by simp; omega)]
    exact a3 j (by omega)
theorem Still.lay {I : Inj} {H : Heap} (hg : Still w I H) {b d : Nat} {c : Array Value} {el : TypeId} {fr : Nat × Nat} {obj : List HV} (hb : w.heap[b]? = some (.cells c el fr))
  (hc : ∀ (i : Nat) (h : HV), obj[i]? = some h → ∃ v, c[d + i]? = some v ∧ VC I h v) :
  Still w { j := fun x => if x = H.n then some (b, d) else I.j x, sz := I.sz } (H.push (.cells obj true)) ∧ Ext I H { j := fun x => if x = H.n then some (b, d) else I.j x, sz := I.sz } (H.push (.cells obj true)) := by
 have hle : I.le { j := fun x => if x = H.n then some (b, d) else I.j x, sz := I.sz } := ⟨fun x y e => (by
  simp only; rw [if_neg]; exact e
  intro hx; rw [hx, hg.rel.j_none (Nat.le_refl _)] at e; cases e), fun _ _ e => e⟩
 have hget : ∀ x, (H.push (.cells obj true)).get x = if x = H.n then .cells obj true else H.get x := fun _ => rfl
 have hnol : ∀ b s, (H.push (.cells obj true)).get b ≠ .spc s := by
  intro b s e; rw [hget] at e
  split at e
  ·cases e
  ·exact hg.nol b s e
 refine ⟨⟨⟨?_, ?_, ?_, ?_, ?_, fun b b' d s _ e => absurd e (hnol b s), ?_, fun b1 _ _ _ _ s _ _ _ e _ => absurd e (hnol b1 s)⟩, ?_, hnol⟩, hle, by simp [Heap.push], ?_, fun x hx => by simp only [Heap.push]; rw [if_neg (by omega)]⟩
 ·intro x y e; simp only at e; simp only [Heap.push]
  split at e
  ·omega
  ·have := hg.rel.bnd x y e; omega
 ·intro x b' d' e; simp only at e
  split at e
  ·cases e; exact lt_of_heap hb
  ·exact hg.rel.img x b' d' e
 ·intro x b' d' cs ro e1 e2; simp only at e1; rw [hget] at e2
  split at e1
  ·rename_i hx; rw [if_pos hx] at e2; cases e1; cases e2
   exact ⟨c, el, fr, hb, fun i h hi => by obtain ⟨v, v1, v2⟩ := hc i h hi; exact ⟨v, v1, v2.mono hle⟩, fun h => by cases h⟩
  ·rename_i hx; rw [if_neg hx] at e2
   obtain ⟨c', el', fr', q1, q2, q3⟩ := hg.rel.obj x b' d' cs ro e1 e2
   exact ⟨c', el', fr', q1, fun i h hi => by obtain ⟨v, v1, v2⟩ := q2 i h hi; exact ⟨v, v1, v2.mono hle⟩, q3⟩
 ·intro b1 b2 b' d1 d2 c1 c2 ro e1 e2 e3 e4
  rw [hget] at e3
  split at e3
  ·cases e3
  ·have := (hg.ro _ _ _ e3).1; cases this
 ·exact hg.rel.sz
 ·intro x b' d' t s e1 e2
  have e2' : (if x = H.n then none else H.ty x) = some (t, s) := e2
  split at e2'
  ·cases e2'
  ·rename_i hx
   simp only at e1
   rw [if_neg hx] at e1; exact hg.rel.ty _ _ _ _ _ e1 e2'
 ·intro x cs ro e; rw [hget] at e
  simp only [Heap.push]
  split at e
  ·cases e; exact ⟨rfl, by omega⟩
  ·have := hg.ro x cs ro e; exact ⟨this.1, by omega⟩
 ·intro x cs ro e
  rw [hget, if_neg]; exact e
  intro hx; have := (hg.ro x cs ro e).2; omega
theorem Still.lay0 {I : Inj} {H : Heap} (hg : Still w I H) : Still w I (H.push (.cells [] true)) ∧ Ext I H I (H.push (.cells [] true)) := by
 have hget : ∀ x, (H.push (.cells [] true)).get x = if x = H.n then .cells [] true else H.get x := fun _ => rfl
 have hne : ∀ x y, I.j x = some y → x ≠ H.n := fun x y e => by have := hg.rel.bnd x y e; omega
 have hnol : ∀ b s, (H.push (.cells [] true)).get b ≠ .spc s := by
  intro b s e; rw [hget] at e
  split at e
  ·cases e
  ·exact hg.nol b s e
 refine ⟨⟨⟨?_, hg.rel.img, ?_, ?_, hg.rel.sz, fun b b' d s _ e => absurd e (hnol b s), ?_, fun b1 _ _ _ _ s _ _ _ e _ => absurd e (hnol b1 s)⟩, ?_, hnol⟩, .refl I, by simp [Heap.push], ?_, fun x hx => by simp only [Heap.push]; rw [if_neg (by omega)]⟩
 ·intro x y e; have := hg.rel.bnd x y e; simp only [Heap.push]; omega
 ·intro x b' d' cs ro e1 e2; rw [hget, if_neg (hne _ _ e1)] at e2
  exact hg.rel.obj x b' d' cs ro e1 e2
 ·intro b1 b2 b' d1 d2 c1 c2 ro e1 e2 e3 e4
  rw [hget, if_neg (hne _ _ e1)] at e3; rw [hget, if_neg (hne _ _ e2)] at e4
  exact hg.rel.inj b1 b2 b' d1 d2 c1 c2 ro e1 e2 e3 e4
 ·intro x b' d' t s e1 e2
  have e2' : (if x = H.n then none else H.ty x) = some (t, s) := e2
  rw [if_neg (hne _ _ e1)] at e2'
  exact hg.rel.ty _ _ _ _ _ e1 e2'
 ·intro x cs ro e; rw [hget] at e
  simp only [Heap.push]
  split at e
  ·cases e; exact ⟨rfl, by omega⟩
  ·have := hg.ro x cs ro e; exact ⟨this.1, by omega⟩
 ·intro x cs ro e
  rw [hget, if_neg]; exact e
  intro hx; have := (hg.ro x cs ro e).2; omega
theorem flatFs_off {g : TypeId → Bool} : ∀ {l : List Field} {off tot : Nat}, flatFs P g off l tot = true → ∃ o : Nat → Nat, o 0 = off ∧ o l.length = tot ∧ (∀ (i : Nat) (f : Field), l[i]? = some f → f.offset = o i ∧ o (i + 1) = o i + sizeT P f.type ∧ g f.type = true)
 | [], off, tot, h => ⟨fun _ => off, rfl, Nat.eq_of_beq_eq_true h, fun i f e => by simp at e⟩
 | f :: r, off, tot, h => by
  simp only [flatFs, Bool.and_eq_true] at h
  obtain ⟨⟨h1, h2⟩, h3⟩ := h
  obtain ⟨o, o1, o2, o3⟩ := flatFs_off h3
  refine ⟨fun i => match i with | 0 => off | i + 1 => o i, rfl, o2, fun i f' e => ?_⟩
  cases i with
  | zero =>
   simp only [List.getElem?_cons_zero, Option.some.injEq] at e
   subst e
   exact ⟨Nat.eq_of_beq_eq_true h1, o1, h2⟩
  | succ i => exact o3 i f' (by simpa using e)
theorem opens_trod {H : Type} {enc : TypeId × Value → H} : ∀ (n : Nat) {fuel : Nat} {t : TypeId} {cs : List Value} {x : DataW H × List MemPlace}, flatT P n t = true →
  DataW.trod enc P w 0 (fun _ => true) true fuel t cs = some x → Opens P w n t cs
 | 0, _, _, _, _, hf, _ => by cases hf
 | n + 1, fuel, t, cs, x, hf, h => by
  intro I Hp hg
  unfold flatT at hf
  split at hf
  ·rename_i ht
   obtain ⟨b, rfl, _⟩ := DataW.trod_bool ht h
   refine ⟨I, Hp, [.bool b], hg, .refl I Hp, .cons (.bool b) .nil, by simp [HV.sc], ?_⟩
   unfold Ty; rw [ht]; exact ⟨b, rfl⟩
  ·rename_i k ht
   obtain ⟨v, rfl, _, hw⟩ := DataW.trod_int ht h
   refine ⟨I, Hp, [.int k v], hg, .refl I Hp, .cons (.int k v) .nil, by simp [HV.sc], ?_⟩
   unfold Ty; rw [ht]
   simp only [Lit.wf, Bool.and_eq_true, decide_eq_true_eq] at hw
   exact ⟨v, rfl, hw⟩
  ·rename_i ht
   obtain ⟨s, rfl, _, hs⟩ := DataW.trod_string ht h
   refine ⟨I, Hp, [.str s], hg, .refl I Hp, .cons (.str s) .nil, by simp [HV.sc], ?_⟩
   unfold Ty; rw [ht]; exact ⟨s, rfl, hs⟩
  ·rename_i e ht
   simp only [Bool.and_eq_true, Nat.ble_eq] at hf
   obtain ⟨hf1, hf2⟩ := hf
   rcases DataW.trod_slice ht h with ⟨rfl, _⟩ | ⟨a, len, cap, elems, rest, m, _, rfl, _, hb, hl, hm, hlen, hel, hsp, _⟩
   ·refine ⟨I, Hp, [.sl ⟨none, 0, 0, none⟩], hg, .refl I Hp, .cons .slN .nil, by simp [HV.sc], ?_⟩
    unfold Ty; rw [ht]; exact .inl rfl
   ·obtain ⟨hr1, hr2⟩ := hsp rfl
    by_cases hc0 : cap = 0
    ·subst hc0
     have hl0 : len = 0 := by omega
     subst hl0
     obtain ⟨g1, e1⟩ := hg.lay0
     refine ⟨I, _, [.sl ⟨some (Hp.n, 0), 0, 0, none⟩], g1, e1, .cons .slE .nil, by simp [HV.sc], ?_⟩
     unfold Ty; rw [ht]
     exact .inr ⟨Hp.n, 0, 0, [], rfl, by simp [Heap.push], by simp, Nat.le_refl _, by omega, fun i hi => by omega⟩
    ·-- each element
     have hcell : ∀ i, i < cap → ∃ l y, w.cells? 0 (a.add (i * P.cellsOf e)) (P.cellsOf e) = some l ∧ DataW.trod enc P w 0 (fun _ => true) true m e l = some y := by
      intro i hi
      by_cases hil : i < len
      ·have h1 := hel i hil
       rw [List.getElem?_eq_getElem (by omega)] at h1
       obtain ⟨l, l1, l2⟩ := Option.bind_eq_some_iff.1 h1
       exact ⟨l, _, l1, l2⟩
      ·have h1 := hr2 (i - len) (by omega)
       rw [List.getElem?_eq_getElem (by omega), show len + (i - len) = i by omega] at h1
       obtain ⟨l, l1, l2⟩ := Option.bind_eq_some_iff.1 h1
       exact ⟨l, _, l1, l2⟩
     -- the block
     obtain ⟨l0, y0, z1, z2⟩ := hcell 0 (by omega)
     obtain ⟨_, z3, z4⟩ := World.cells?_some z1
     have hf2' : 1 ≤ P.cellsOf e := hf2
     have z5 := z4 0 (by omega)
     rw [List.getElem?_eq_getElem (by omega)] at z5
     simp only [Nat.zero_mul, Addr.add, if_true] at z5
     obtain ⟨b, d, spot⟩ := a
     unfold World.cell? at z5
     simp only at z5
     split at z5
     ·rename_i c el fr hw
      split at z5
      ·cases z5
      ·rename_i hspot
       have hspot : spot = none := by simpa using hspot
       subst hspot
       have hcl : ∀ i, i < cap → ∀ q, q < sizeT P e → ∃ v, c[d + i * sizeT P e + q]? = some v := by
        intro i hi q hq
        obtain ⟨l, y, q1, q2⟩ := hcell i hi
        obtain ⟨_, q3, q4⟩ := World.cells?_some q1
        have := q4 q hq
        rw [add_none, add_none, cell_of hw, List.getElem?_eq_getElem (by rw [q3]; exact hq)] at this
        exact ⟨_, this⟩
       have hel : ∀ i, i < cap → Opens P w n e (((c.toList.drop d).drop (i * sizeT P e)).take (sizeT P e)) := by
        intro i hi
        obtain ⟨l, y, q1, q2⟩ := hcell i hi
        obtain ⟨_, q3, q4⟩ := World.cells?_some q1
        have : ((c.toList.drop d).drop (i * sizeT P e)).take (sizeT P e) = l := by
         apply List.ext_getElem?
         intro q
         by_cases hq : q < sizeT P e
         ·rw [List.getElem?_take, if_pos hq, List.getElem?_drop, List.getElem?_drop, Array.getElem?_toList, ← Nat.add_assoc, ← q4 q hq, add_none, add_none, cell_of hw]
          rfl
         ·rw [List.getElem?_take, if_neg hq, List.getElem?_eq_none (by rw [q3]; exact Nat.le_of_not_lt hq)]
        rw [this]; exact opens_trod n hf1 q2
       obtain ⟨I1, H1, hs, g1, e1, a1⟩ := opens_all (ty := fun _ => e) cap hel I Hp hg
       have hsz : cap * sizeT P e ≤ (c.toList.drop d).length := by
        obtain ⟨v, hv⟩ := hcl (cap - 1) (by omega) (sizeT P e - 1) (by omega)
        have := (Array.getElem?_eq_some_iff.1 hv).1
        have e2 : cap * sizeT P e = (cap - 1) * sizeT P e + sizeT P e := by
         rw [← Nat.succ_mul]; congr 1; omega
        simp; omega
       obtain ⟨obj, o1, o2, o3⟩ := joined (I := I1) (cs := c.toList.drop d) (hs := hs) (o := fun i => i * sizeT P e) (s := fun _ => sizeT P e) (by simp) (fun j => by simp [Nat.succ_mul]) cap hsz (fun j hj => ⟨(a1 j hj).1, (a1 j hj).2.1⟩)
       have hol : obj.length = cap * sizeT P e := by have := o1.length; simp at this hsz; omega
       obtain ⟨g2, e2⟩ := g1.lay (obj := obj) (d := d) hw (by
        intro i hh hi
        obtain ⟨v, v1, v2⟩ := o1.get hi
        have hlt : i < cap * sizeT P e := by have := (List.getElem?_eq_some_iff.1 hi).1; omega
        rw [List.getElem?_take, if_pos hlt, List.getElem?_drop, Array.getElem?_toList] at v1
        exact ⟨v, v1, v2, o2 hh (List.mem_of_getElem? hi)⟩)
       refine ⟨_, _, [.sl ⟨some (H1.n, 0), len, cap, none⟩], g2, e1.trans e2, .cons ?_ .nil, by simp [HV.sc], ?_⟩
       ·exact VR.sl (o := 0) (d := d) (b := H1.n) (b' := b) (by simp) (Nat.le_refl _) (fun _ => rfl) (fun es hes => by cases hes)
       ·unfold Ty; rw [ht]
        refine .inr ⟨H1.n, len, cap, obj, rfl, by simp [Heap.push], hol, hl, hm, fun i hi => ?_⟩
        rw [o3 i hi]
        exact (a1 i hi).2.2.mono e2
     ·cases z5
  ·rename_i fs ht
   obtain ⟨xs, m, _, _, hlen, hxs, hfs⟩ := DataW.trod_struct ht h
   obtain ⟨o, o1, o2, o3⟩ := flatFs_off hf
   have hfl : fs.toList.length = fs.size := by simp
   -- the fields' types, sizes
   let ty : Nat → TypeId := fun j => match fs[j]? with | some f => f.type | none => 0
   let sz : Nat → Nat := fun j => o (j + 1) - o j
   have hty : ∀ (j : Nat) (f : Field), fs[j]? = some f → ty j = f.type := fun j f e => by simp only [ty, e]
   have hsz : ∀ (j : Nat) (f : Field), fs[j]? = some f → sz j = sizeT P f.type := fun j f e => by
    have := (o3 j f (by rw [Array.getElem?_toList]; exact e)).2.1
    simp only [sz]; omega
   have hop : ∀ j, j < fs.size → Opens P w n (ty j) ((cs.drop (o j)).take (sz j)) := by
    intro j hj
    obtain ⟨f, hf'⟩ : ∃ f, fs[j]? = some f := ⟨fs[j], Array.getElem?_eq_getElem hj⟩
    have h1 := hfs j f hf'
    rw [List.getElem?_eq_getElem (by omega)] at h1
    obtain ⟨p1, p2, p3⟩ := o3 j f (by rw [Array.getElem?_toList]; exact hf')
    rw [hty j f hf', hsz j f hf', ← p1]
    exact opens_trod n p3 h1
   obtain ⟨I1, H1, hs, g1, e1, a1⟩ := opens_all fs.size hop I Hp hg
   let o' : Nat → Nat := fun j => if j ≤ fs.size then o j else o fs.size
   let s' : Nat → Nat := fun j => if j < fs.size then sz j else 0
   have hmon : ∀ j, j < fs.size → o (j + 1) = o j + sz j := fun j hj => by
    obtain ⟨f, hf'⟩ : ∃ f, fs[j]? = some f := ⟨fs[j], Array.getElem?_eq_getElem hj⟩
    have := (o3 j f (by rw [Array.getElem?_toList]; exact hf')).2.1
    simp only [sz]; omega
   have hstep : ∀ j, o' (j + 1) = o' j + s' j := by
    intro j
    simp only [o', s']
    by_cases hj : j < fs.size
    ·rw [if_pos (by omega), if_pos (by omega), if_pos hj, hmon j hj]
    ·rw [if_neg (by omega), if_neg hj]
     by_cases hj2 : j ≤ fs.size
     ·have : j = fs.size := by omega
      subst this; rw [if_pos hj2]; omega
     ·rw [if_neg hj2]; omega
   have ho' : o' fs.size = sizeT P t := by simp only [o', if_pos (Nat.le_refl _)]; rw [← hfl, o2]
   have hcl : cs.length = sizeT P t := hlen
   obtain ⟨all, b1, b2, b3⟩ := joined (I := I1) (cs := cs) (hs := hs) (o := o') (s := s') (by simp only [o', if_pos (Nat.zero_le _)]; exact o1) hstep fs.size (by rw [ho', hcl]; exact Nat.le_refl _) (fun j hj => by
    have := a1 j hj
    refine ⟨?_, this.2.1⟩
    simp only [o', s', if_pos (Nat.le_of_lt hj), if_pos hj]
    exact this.1)
   rw [ho', ← hcl, List.take_length] at b1
   refine ⟨I1, H1, all, g1, e1, b1, b2, ?_⟩
   unfold Ty; rw [ht]
   refine ⟨by rw [← b1.length]; exact hcl, fun j f hf' => ?_⟩
   have hj : j < fs.size := (Array.getElem?_eq_some_iff.1 hf').1
   have := b3 j hj
   simp only [o', s', if_pos (Nat.le_of_lt hj), if_pos hj] at this
   rw [(o3 j f (by rw [Array.getElem?_toList]; exact hf')).1, ← hsz j f hf', this, ← hty j f hf']
   exact (a1 j hj).2.2
  ·rename_i m e ht
   simp only [Bool.and_eq_true] at hf
   obtain ⟨hf1, hf2⟩ := hf
   have hf2 : sizeT P t = m * sizeT P e := Nat.eq_of_beq_eq_true hf2
   obtain ⟨xs, k, _, _, hlen, hxs, hfs⟩ := DataW.trod_array ht h
   have hcl : cs.length = m * sizeT P e := by rw [← hf2]; exact hlen
   have hop : ∀ j, j < m → Opens P w n e ((cs.drop (j * sizeT P e)).take (sizeT P e)) := by
    intro j hj
    have h1 := hfs j hj
    rw [List.getElem?_eq_getElem (by omega)] at h1
    exact opens_trod n hf1 h1
   obtain ⟨I1, H1, hs, g1, e1, a1⟩ := opens_all (ty := fun _ => e) m hop I Hp hg
   obtain ⟨all, b1, b2, b3⟩ := joined (I := I1) (cs := cs) (hs := hs) (o := fun i => i * sizeT P e) (s := fun _ => sizeT P e) (by simp) (fun j => by simp [Nat.succ_mul]) m (by rw [hcl]; exact Nat.le_refl _) (fun j hj => ⟨(a1 j hj).1, (a1 j hj).2.1⟩)
   simp only [← hcl, List.take_length] at b1
   refine ⟨I1, H1, all, g1, e1, b1, b2, ?_⟩
   unfold Ty; rw [ht]
   refine ⟨by rw [← b1.length]; exact hcl, fun j hj => ?_⟩
   rw [b3 j hj]
   exact (a1 j hj).2.2
  ·cases hf
end
end Go.Proofs.YtbphjihgbenkdaaGreat.HQ
