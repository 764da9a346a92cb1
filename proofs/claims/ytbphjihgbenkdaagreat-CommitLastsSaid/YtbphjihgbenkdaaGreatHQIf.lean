/- Lemmas for the row. Conditions: none. -/
import Derived.Test.YtbphjihgbenkdaaGreatHQ5i
import Derived.Test.YtbphjihgbenkdaaGreatHQIc
namespace Go.Proofs.YtbphjihgbenkdaaGreat.HQ
set_option linter.unusedVariables false
set_option linter.unusedSectionVars false
set_option linter.unusedSimpArgs false
open Go Go.Proofs Go.RowKit
set_option linter.unusedSectionVars false
variable [Sites]
section
variable {I I' : Inj} {H H' : Heap} {w w' w1 : World}
theorem Rel.ofHeap (h : Rel I H w) (e : w'.heap = w.heap) : Rel I H w' := by
 obtain ⟨h1, t1, d1, o1, p1⟩ := w
 obtain ⟨h2, t2, d2, o2, p2⟩ := w'
 simp only at e
 subst e
 exact ⟨h.bnd, h.img, h.obj, h.inj, h.sz, h.spc, h.ty, h.sinj⟩
theorem Step.ofHeap (h : Step I H w I' H' w1) (e : w'.heap = w1.heap) (hx : w'.os = w1.os ∧ w'.output = w1.output) : Step I H w I' H' w' := by
 refine ⟨⟨hx.1.trans h.ext.1, hx.2.trans h.ext.2⟩, h.le, h.n, by rw [e]; exact h.size, fun b q1 q2 q3 => by rw [e]; exact h.keep b q1 q2 q3, h.img1, h.img2, h.img3, fun b r q => by rw [e]; exact h.lp b r q⟩
theorem fresh_rel (hR : Rel I H w) {xs : List HV} {c : Array Value} {E : TypeId} (hat : w'.heap[w.heap.size]? = some (.cells c E (0, 0))) (hold : ∀ x, x < w.heap.size → w'.heap[x]? = w.heap[x]?)
  (hsz : w'.heap.size = w.heap.size + 1) (hx : w'.os = w.os ∧ w'.output = w.output) (hc : ∀ (j : Nat) (x : HV), xs[j]? = some x → ∃ v, c[j]? = some v ∧ VC I x v) :
  Rel (I.up H.n w.heap.size c.size) (H.pushT (some (E, none)) (.cells xs false)) w' ∧ Step I H w (I.up H.n w.heap.size c.size) (H.pushT (some (E, none)) (.cells xs false)) w' := by
 have e : w'.heap = (w.alloc (.cells c E)).heap := by
  apply Array.ext_getElem?
  intro x
  rcases Nat.lt_trichotomy x w.heap.size with hlt | rfl | hgt
  ·rw [hold x hlt, heap_alloc_lt w _ hlt]
  ·rw [hat]; exact (heap_alloc_eq w _).symm
  ·rw [Array.getElem?_eq_none (by omega), Array.getElem?_eq_none (by simp; omega)]
 exact ⟨(hR.newT (some (E, none)) E (fun _ _ hh => by cases hh; exact ⟨rfl, fun k hk => by cases hk⟩) hc).ofHeap e, (Step.newT hR (some (E, none)) xs c E).ofHeap e hx⟩
theorem cells_at (hR : Rel I H w) {b b' d : Nat} {cs : List HV} {ro : Bool} (hj : I.j b = some (b', d)) (hg : H.get b = .cells cs ro) {o k : Nat} (ho : o + k ≤ cs.length) :
  ∃ vs : List Value, vs.length = k ∧ VRs I ((cs.drop o).take k) vs ∧ (∀ x ∈ vs, x.oneCell' = true) ∧ ∀ (j : Nat) (v : Value), vs[j]? = some v → w.cell? ⟨b', d + o + j, none⟩ = some v := by
 obtain ⟨c, el, fr, h1, h2, _⟩ := hR.obj b b' d cs ro hj hg
 induction k with
 | zero => exact ⟨[], rfl, by simpa using VRs.nil, by simp, by simp⟩
 | succ k ih =>
  obtain ⟨vs, q1, q2, q3, q4⟩ := ih (by omega)
  obtain ⟨u, u1, u2, u3⟩ := h2 (o + k) _ (List.getElem?_eq_getElem (by omega))
  refine ⟨vs ++ [u], by simp [q1], ?_, ?_, ?_⟩
  ·have e : (cs.drop o).take (k + 1) = (cs.drop o).take k ++ [cs[o + k]'(by omega)] := by
    rw [List.take_add_one, List.getElem?_drop, List.getElem?_eq_getElem (by omega)]; rfl
   rw [e]; exact q2.append (.cons u2 .nil)
  ·intro x hx
   rcases List.mem_append.1 hx with hx | hx
   ·exact q3 x hx
   ·simp at hx; subst hx; rw [u2.sc]; exact u3
  ·intro j v hj
   rcases Nat.lt_trichotomy j k with hlt | rfl | hgt
   ·rw [List.getElem?_append_left (by omega)] at hj; exact q4 j v hj
   ·rw [List.getElem?_append_right (by omega), q1, Nat.sub_self] at hj
    simp at hj; subst hj
    rw [cell_of h1, Nat.add_assoc]; exact u1
   ·rw [List.getElem?_eq_none (by simp [q1]; omega)] at hj; cases hj
theorem up_sz (I : Inj) (b b' s : Nat) : (I.up b b' s).sz b' = some s := by simp [Inj.up]
theorem row_size {cs vs : List Value} {zc : Array Value} {n sz G : Nat} (h1 : cs.length = n * sz) (h2 : vs.length = sz) (h3 : zc.size = sz) (hG : n + 1 ≤ G) : (cs ++ vs ++ (Builtin.zeroCells zc (G - (n + 1))).toList).toArray.size = G * sz := by
 have h4 : (G - (n + 1)) * sz + (n + 1) * sz = G * sz := by rw [← Nat.add_mul]; congr 1; omega
 have h5 : (n + 1) * sz = n * sz + sz := Nat.succ_mul n sz
 simp only [List.size_toArray, List.length_append, Array.length_toList, zeroCells_len, h1, h2, h3]
 omega
theorem mid_get {α : Type} {A B C : List α} (j : Nat) : (A ++ B ++ C)[j]? = if j < A.length then A[j]? else if j < A.length + B.length then B[j - A.length]? else C[j - (A.length + B.length)]? := by
 split
 ·rw [List.append_assoc, List.getElem?_append_left (by assumption)]
 ·split
  ·rw [List.append_assoc, List.getElem?_append_right (by omega), List.getElem?_append_left (by omega)]
  ·rw [List.append_assoc, List.getElem?_append_right (by omega), List.getElem?_append_right (by omega)]
   congr 1; omega
theorem sets_two {b : Nat} {c : Array Value} {el : TypeId} {fr : Nat × Nat} {w W : World} (l1 l2 : List Value) (o1 o2 : Nat) (hat : w.heap[b]? = some (.cells c el fr)) (hW : W.heap = (w.setCells b o1 l1).heap) (hx : W.os = w.os ∧ W.output = w.output) :
  ∃ x2 : Array Value, (W.setCells b o2 l2).heap[b]? = some (.cells x2 el fr) ∧ x2.size = c.size ∧ (∀ i, i < c.size → x2[i]? = if o2 ≤ i ∧ i < o2 + l2.length then l2[i - o2]? else if o1 ≤ i ∧ i < o1 + l1.length then l1[i - o1]? else c[i]?) ∧
   (∀ x, x ≠ b → (W.setCells b o2 l2).heap[x]? = w.heap[x]?) ∧ (W.setCells b o2 l2).heap.size = w.heap.size ∧ ((W.setCells b o2 l2).os = w.os ∧ (W.setCells b o2 l2).output = w.output) := by
 obtain ⟨x1, e1, e2, e3⟩ := setCells_eq l1 o1 w c el fr hat
 rw [← hW] at e1
 obtain ⟨x2, f1, f2, f3⟩ := setCells_eq l2 o2 W x1 el fr e1
 refine ⟨x2, f1, f2.trans e2, fun i hi => ?_, fun x hx => ?_, ?_, ?_⟩
 ·rw [f3 i (by omega), e3 i hi]
 ·rw [setCells_ne l2 o2 W x hx, hW, setCells_ne l1 o1 w x hx]
 ·rw [setCells_size l2 o2 W, hW, setCells_size l1 o1 w]
 ·have := setCells_ext (b := b) l2 o2 W
  exact ⟨this.1.trans hx.1, this.2.trans hx.2⟩
theorem mid_cells {cs vh : List HV} {cs' vs' : List Value} {m : Nat} (hc : VRs I cs cs') (hv : VRs I vh vs') (h1c : ∀ x ∈ cs', x.oneCell' = true) (h1v : ∀ x ∈ vs', x.oneCell' = true) {c : Array Value}
  (h : ∀ (j : Nat) (v : Value), (cs'.take m ++ vs' ++ cs'.drop m)[j]? = some v → c[j]? = some v) : ∀ (j : Nat) (x : HV), (cs.take m ++ vh ++ cs.drop m)[j]? = some x → ∃ v, c[j]? = some v ∧ VC I x v := by
 intro j x hx
 obtain ⟨v, q1, q2⟩ := (((hc.take m).append hv).append (hc.drop m)).get hx
 refine ⟨v, h j v q1, q2, ?_⟩
 rw [← q2.sc]
 rcases List.mem_append.1 (List.mem_of_getElem? q1) with hm | hm
 ·rcases List.mem_append.1 hm with hm | hm
  ·exact h1c v (List.mem_of_mem_take hm)
  ·exact h1v v hm
 ·exact h1c v (List.mem_of_mem_drop hm)
end
theorem args3 {I : Inj} {x y z : HV} {l : List Value} (h : VRs I [x, y, z] l) : ∃ u v t, l = [u, v, t] ∧ VR I x u ∧ VR I y v ∧ VR I z t := by
 cases h with | cons a b => cases b with | cons c d => cases d with | cons e f => cases f; exact ⟨_, _, _, rfl, a, c, e⟩
section
variable {P : Program} {gl : Nat → Option Nat} {f : Nat}
theorem ok_ins (hb : Bodied P f) {E sz by_ : Nat} {zc : Array Value} (hsz : 0 < sz) (hE : E ≠ 5) (hzc : zc.size = sz)
  (hshift : ∀ (b n c i vb voff vc : Nat) (cs vs : List Value) (w : World), i < n → n + 1 ≤ c → n + 1 ≤ 140737488355328 → vb ≠ b → cs.length = n * sz → vs.length = sz →
   (∀ j v, cs[j]? = some v → w.cell? ⟨b, j, none⟩ = some v) → (∀ j, j < (n + 1) * sz → (w.cell? ⟨b, j, none⟩).isSome = true) → (∀ j, j < (n + 1) * sz → w.frozen? ⟨b, j, none⟩ = false) →
   (∀ j v, vs[j]? = some v → w.cell? ⟨vb, voff + j, none⟩ = some v) → (∀ v ∈ cs, v.oneCell' = true) → (∀ v ∈ vs, v.oneCell' = true) →
   ∀ (tA tB : TypeId) (kA kB : Nat), w.shape? vb = some (tA, kA) → w.shape? b = some (tB, kB) → kA ≠ 0 → kB ≠ 0 → w.frozen? ⟨b, (i + 1) * sz, none⟩ = false → w.frozen? ⟨b, kB, none⟩ = false →
   Calls P f #[.slice (some ⟨b, 0, none⟩) n c, .int .i64 i, .slice (some ⟨vb, voff, none⟩) 1 vc] w fun e w' =>
    e = .returned (.slice (some ⟨b, 0, none⟩) (n + 1) c) ∧ w' = (w.drew.setCells b ((i + 1) * sz) (cs.drop (i * sz))).setCells b (i * sz) vs)
  (hroom : ∀ (b n c vb voff vc : Nat) (vs : List Value) (w : World), n + 1 ≤ c → n + 1 ≤ 140737488355328 → vs.length = sz → (∀ j v, vs[j]? = some v → w.cell? ⟨vb, voff + j, none⟩ = some v) → (∀ v ∈ vs, v.oneCell' = true) →
   ∀ {cc : Array Value} {el : TypeId} {fr : Nat × Nat}, w.heap[b]? = some (.cells cc el fr) → Thaw cc.size el fr → (n + 1) * sz ≤ cc.size →
   Calls P f #[.slice (some ⟨b, 0, none⟩) n c, .int .i64 n, .slice (some ⟨vb, voff, none⟩) 1 vc] w fun e w' =>
    e = .returned (.slice (some ⟨b, 0, none⟩) (n + 1) c) ∧ w' = w.setCells b (n * sz) vs)
  (hend : ∀ (base : Option Addr) (n c vb voff vc : Nat) (cs vs : List Value) (w : World), n ≤ c → c < n + 1 → (n + 1) * by_ ≤ 140737488355328 → cs.length = n * sz → vs.length = sz → (base = none → n = 0) →
   (∀ a, base = some a → ∀ j v, cs[j]? = some v → w.cell? (a.add j) = some v) → (∀ j v, vs[j]? = some v → w.cell? ⟨vb, voff + j, none⟩ = some v) →
   ∀ (ROW : Array Value), ROW = (cs ++ vs ++ (Builtin.zeroCells zc (grownCap w (n + 1) c E - (n + 1))).toList).toArray →
   Calls P f #[.slice base n c, .int .i64 n, .slice (some ⟨vb, voff, none⟩) 1 vc] w fun e w' =>
    e = .returned (.slice (some ⟨w.heap.size, 0, none⟩) (n + 1) (grownCap w (n + 1) c E)) ∧ w' = w.drew.alloc (.cells ROW E))
  (hgrow : ∀ (b n c i vb voff vc : Nat) (cs vs : List Value) (w : World), i < n → n ≤ c → c < n + 1 → (n + 1) * by_ ≤ 140737488355328 → cs.length = n * sz → vs.length = sz →
   (∀ j v, cs[j]? = some v → w.cell? ⟨b, j, none⟩ = some v) → (∀ j v, vs[j]? = some v → w.cell? ⟨vb, voff + j, none⟩ = some v) → (∀ v ∈ cs, v.oneCell' = true) → (∀ v ∈ vs, v.oneCell' = true) →
   Calls P f #[.slice (some ⟨b, 0, none⟩) n c, .int .i64 i, .slice (some ⟨vb, voff, none⟩) 1 vc] w fun e w' =>
    e = .returned (.slice (some ⟨w.heap.size, 0, none⟩) (n + 1) (grownCap w (n + 1) c E)) ∧
    ∃ ROW : Array Value, ROW.size = (grownCap w (n + 1) c E) * sz ∧ (∀ (j : Nat) (v : Value), (cs.take (i * sz))[j]? = some v → ROW[j]? = some v) ∧
    w' = (((w.alloc (.cells ROW E)).drew.setCells w.heap.size (i * sz) vs).drew).setCells w.heap.size ((i + 1) * sz) (cs.drop (i * sz))) :
  FnOk P gl f (insT E sz by_) := by
 refine ⟨hb, fun args H n r H' h I w args' hR hgl ha => ?_⟩
 obtain ⟨v1, l, rfl, h⟩ := uc_some h
 obtain ⟨s, rfl, h⟩ := asSl_some h
 obtain ⟨v2, l, rfl, h⟩ := uc_some h
 obtain ⟨i, rfl, h⟩ := asI_some h
 obtain ⟨v3, l, rfl, h⟩ := uc_some h
 obtain ⟨v, rfl, h⟩ := asSl_some h
 obtain ⟨rfl, h⟩ := nl_some h
 obtain ⟨g, h⟩ := gd_some h
 simp only [Bool.and_eq_true, decide_eq_true_eq] at g
 obtain ⟨⟨⟨⟨⟨g1, g2⟩, g3⟩, g4⟩, g5⟩, g6⟩ := g
 obtain ⟨u1, u2, u3, rfl, hu1, hu2, hu3⟩ := args3 ha
 cases hu2
 obtain ⟨k, rfl⟩ := Int.eq_ofNat_of_zero_le g2
 obtain ⟨vp, vlen, vcap, vopn⟩ := v
 simp only at g1
 subst g1
 cases vp with
 | none => exact (stk_some h).elim
 | some q =>
 obtain ⟨vb, vo⟩ := q
 obtain ⟨vcs, vro, hvg, hvl, h⟩ := ldN_some h
 cases hu3 with
 | sl vj vw1 vw2 vw3 =>
 rename_i vb' vd vcap'
 obtain ⟨vs, q1, q2, q3, q4⟩ := cells_at hR vj hvg hvl
 generalize (vcs.drop vo).take sz = vh at *
 obtain ⟨p, len, cap, opn⟩ := s
 simp only [Int.toNat_natCast] at g3 g4 g5 g6 h
 unfold room at g5 g6
 have g3 : k ≤ len := by omega
 cases p with
 | none =>
  obtain ⟨g, h⟩ := gd_some h
  simp only [Bool.and_eq_true, decide_eq_true_eq] at g
  obtain ⟨rfl, rfl⟩ := g
  cases hu1
  have : k = 0 := by omega
  subst this
  replace h : app (ret (HV.sl ⟨some (H.n, 0), 1, 1, some sz⟩)) (H.pushT (some (E, none)) (.cells vh false)) n = some (r, H') := h
  simp only [app, ret, Option.some.injEq, Prod.mk.injEq] at h
  obtain ⟨rfl, rfl⟩ := h
  refine (hend none 0 0 vb' (vd + vo) vcap' [] vs w (Nat.le_refl _) (by omega) (by omega) (by simp) q1 (fun _ => rfl) (fun _ hh => by cases hh) q4 _ rfl).mono ?_
  rintro e w' ⟨rfl, rfl⟩
  have hge := grownCap_ge w (0 + 1) 0 E
  obtain ⟨r1, r2⟩ := fresh_rel (w' := w.drew.alloc (.cells _ E)) hR (xs := vh) (heap_alloc_eq w.drew _) (fun x hx => heap_alloc_lt w.drew _ hx) (by simp) ⟨rfl, rfl⟩ (c := ([] ++ vs ++ (Builtin.zeroCells zc (grownCap w (0 + 1) 0 E - (0 + 1))).toList).toArray) (fun j x hx => by
   obtain ⟨u, p1, p2⟩ := q2.get hx
   refine ⟨u, ?_, p2, by rw [← p2.sc]; exact q3 u (List.mem_of_getElem? p1)⟩
   rw [List.nil_append, List.getElem?_toArray, List.getElem?_append_left (List.getElem?_eq_some_iff.1 p1).1]; exact p1)
  refine ⟨_, _, rfl, ?_, r1, r2⟩
  refine VR.sl (b := H.n) (b' := w.heap.size) (d := 0) (o := 0) (up_j I H.n _ _) hge (fun hh => by cases hh) (fun es hes => ?_)
  cases hes
  exact ⟨_, up_sz I H.n _ _, by rw [row_size (n := 0) (by simp) q1 hzc hge]; omega⟩
 | some q =>
  obtain ⟨b, o⟩ := q
  obtain ⟨g, hA⟩ := gd_some h
  clear h
  simp only [Bool.and_eq_true, decide_eq_true_eq, Bool.not_eq_true'] at g
  obtain ⟨⟨rfl, rfl⟩, hne0⟩ := g
  have hne : vb ≠ b := fun hh => by rw [hh] at hne0; simp at hne0
  replace hA : app (insK E sz b len k vh) H n = some (r, H') := hA
  unfold insK at hA
  simp only [app] at hA
  split at hA
  case h_2 => cases hA
  rename_i cs ro hg
  obtain ⟨g, hB⟩ := gd_some hA
  clear hA
  simp only [Bool.and_eq_true, decide_eq_true_eq, Bool.not_eq_true'] at g
  obtain ⟨⟨hcl, rfl⟩, hty⟩ := g
  replace hB : app (ret (HV.sl ⟨some (H.n, 0), len + 1, len + 1, some sz⟩)) ((H.set b .dead).pushT (some (E, none)) (.cells (cs.take (k * sz) ++ vh ++ cs.drop (k * sz)) false)) n = some (r, H') := hB
  simp only [app, ret, Option.some.injEq, Prod.mk.injEq] at hB
  obtain ⟨rfl, rfl⟩ := hB
  generalize hsz0 : sz = sz0 at hu1
  cases hu1 with
  | slO => omega
  | sl hj w1 w2 w3 =>
  subst hsz0
  rename_i b' d cap'
  obtain ⟨c, el, fr, c1, c2, c3⟩ := hR.obj b b' d cs false hj hg
  obtain ⟨rfl, hfr⟩ := c3 rfl
  have hel : el = E := by
   obtain ⟨_, cc, frr, t1, _⟩ := hR.ty _ _ _ _ _ hj hty
   rw [c1] at t1; cases t1; rfl
  subst hel
  have hfr0 : fr = (0, 0) := hfr.2 hE
  subst hfr0
  obtain ⟨szz, z1, z2⟩ := w3 _ rfl
  obtain ⟨c', el', fr', z3, z4⟩ := hR.sz b' szz z1
  rw [c1] at z3; cases z3
  simp only [Nat.zero_add] at z2 ⊢
  have hlc : len ≤ cap' := by omega
  obtain ⟨cv, p1, p2, p3, p4⟩ := cells_at hR hj hg (o := 0) (k := len * sz) (by omega)
  have p2' : VRs I cs cv := by
   have e : (cs.drop 0).take (len * sz) = cs := by rw [List.drop_zero, ← hcl, List.take_length]
   rw [e] at p2; exact p2
  have p4' : ∀ (j : Nat) (v : Value), cv[j]? = some v → w.cell? ⟨b', j, none⟩ = some v := fun j v hj => by have := p4 j v hj; simpa using this
  have hcell : ∀ (j : Nat) (v : Value), cv[j]? = some v → c[j]? = some v := fun j v hj => by have := p4' j v hj; rwa [cell_of c1] at this
  have hbv : vb' ≠ b' := fun hh => by subst hh; exact hne (hR.inj b vb _ _ _ _ _ _ hj vj hg hvg).symm
  have hfz : ∀ j, w.frozen? ⟨b', j, none⟩ = false := fun j => by simp [World.frozen?, c1]
  obtain ⟨vc, vel, vfr, k1, k2, k3⟩ := hR.obj vb vb' vd vcs vro vj hvg
  have hkm : k * sz ≤ len * sz := Nat.mul_le_mul_right _ g3
  have hlm : len * sz ≤ cap' * sz := Nat.mul_le_mul_right _ hlc
  have hL : ∀ (j : Nat) (v : Value) (c2 : Array Value), (cv.take (k * sz) ++ vs ++ cv.drop (k * sz))[j]? = some v →
    (∀ j v, j < k * sz → cv[j]? = some v → c2[j]? = some v) → (∀ j v, vs[j]? = some v → c2[k * sz + j]? = some v) → (∀ j v, k * sz ≤ j → cv[j]? = some v → c2[j + sz]? = some v) → c2[j]? = some v := by
   intro j v c2 hj h1 h2 h3
   have htl : (cv.take (k * sz)).length = k * sz := by rw [List.length_take]; omega
   rw [mid_get, htl, q1] at hj
   split at hj
   ·rename_i hlt
    rw [List.getElem?_take, if_pos hlt] at hj; exact h1 j v hlt hj
   ·split at hj
    ·have := h2 _ v hj
     rwa [show k * sz + (j - k * sz) = j by omega] at this
    ·rw [List.getElem?_drop] at hj
     have := h3 (k * sz + (j - (k * sz + sz))) v (by omega) hj
     rwa [show k * sz + (j - (k * sz + sz)) + sz = j by omega] at this
  have hVR : ∀ {I2 : Inj} {bb G : Nat} {t : Nat}, I2.j H.n = some (bb, 0) → len + 1 ≤ G → I2.sz bb = some t → G * sz ≤ t → VR I2 (.sl ⟨some (H.n, 0), len + 1, len + 1, some sz⟩) (.slice (some ⟨bb, 0, none⟩) (len + 1) G) := by
   intro I2 bb G t i1 i2 i3 i4
   exact VR.sl (b := H.n) (b' := bb) (d := 0) (o := 0) i1 i2 (fun hh => by cases hh) (fun es hes => by cases hes; exact ⟨t, i3, by omega⟩)
  rcases Nat.lt_or_ge cap' (len + 1) with hlt | hge
  ·-- no room: a new row
   have hnew : ∀ {w' : World} {c2 : Array Value}, w'.heap[w.heap.size]? = some (.cells c2 el (0, 0)) → (∀ x, x < w.heap.size → w'.heap[x]? = w.heap[x]?) → w'.heap.size = w.heap.size + 1 → (w'.os = w.os ∧ w'.output = w.output) →
     c2.size = grownCap w (len + 1) cap' el * sz → (∀ (j : Nat) (v : Value), (cv.take (k * sz) ++ vs ++ cv.drop (k * sz))[j]? = some v → c2[j]? = some v) →
     ∃ v I', Ending.returned (.slice (some ⟨w.heap.size, 0, none⟩) (len + 1) (grownCap w (len + 1) cap' el)) = .returned v ∧ VR I' (.sl ⟨some (H.n, 0), len + 1, len + 1, some sz⟩) v ∧
      Rel I' ((H.set b .dead).pushT (some (el, none)) (.cells (cs.take (k * sz) ++ vh ++ cs.drop (k * sz)) false)) w' ∧ Step I H w I' ((H.set b .dead).pushT (some (el, none)) (.cells (cs.take (k * sz) ++ vh ++ cs.drop (k * sz)) false)) w' := by
    intro w' c2 h1 h2 h3 h4 h5 h6
    obtain ⟨r1, r2⟩ := fresh_rel (hR.kill b) h1 h2 h3 h4 (mid_cells p2' q2 p3 q3 h6)
    exact ⟨_, _, rfl, hVR (up_j I H.n _ _) (grownCap_ge w _ _ _) (up_sz I H.n _ _) (by omega), r1, (Step.kill I H w b).trans r2⟩
   rcases Nat.lt_or_ge k len with hk | hk
   ·refine (hgrow b' len cap' k vb' (vd + vo) vcap' cv vs w hk hlc hlt (by omega) p1 q1 p4' q4 p3 q3).mono ?_
    rintro e w' ⟨rfl, ROW, o1, o2, rfl⟩
    have hG := Nat.mul_le_mul_right sz (grownCap_ge w (len + 1) cap' el)
    have h5 : (len + 1) * sz = len * sz + sz := Nat.succ_mul len sz
    have h6 : (k + 1) * sz = k * sz + sz := Nat.succ_mul k sz
    have hdl : (cv.drop (k * sz)).length = len * sz - k * sz := by rw [List.length_drop, p1]
    have hes := setCells_ext (b := w.heap.size) vs (k * sz) (w.alloc (.cells ROW el)).drew
    obtain ⟨x2, f1, f2, f3, f4, f5, f6⟩ := sets_two (w := (w.alloc (.cells ROW el)).drew) (W := ((w.alloc (.cells ROW el)).drew.setCells w.heap.size (k * sz) vs).drew) vs (cv.drop (k * sz)) (k * sz) ((k + 1) * sz) (heap_alloc_eq w _) rfl hes
    generalize (((w.alloc (.cells ROW el)).drew.setCells w.heap.size (k * sz) vs).drew).setCells w.heap.size ((k + 1) * sz) (cv.drop (k * sz)) = w2 at *
    have g5 : w2.heap.size = w.heap.size + 1 := f5.trans (by simp)
    have hcv : ∀ j v, cv[j]? = some v → j < len * sz := fun j v hj => by have := (List.getElem?_eq_some_iff.1 hj).1; omega
    have hvs : ∀ j v, vs[j]? = some v → j < sz := fun j v hj => by have := (List.getElem?_eq_some_iff.1 hj).1; omega
    refine hnew f1 (fun x hx => (f4 x (Nat.ne_of_lt hx)).trans (heap_alloc_lt w _ hx)) g5 f6 (f2.trans o1) (fun j v hj => hL j v x2 hj (fun j v hlt hj => ?_) (fun j v hj => ?_) (fun j v hle hj => ?_))
    ·have hj2 := hcv j v hj
     clear hL hnew hgrow hend hroom hshift
     rw [f3 j (by omega), if_neg (by omega), if_neg (by omega)]
     exact o2 j v (by rw [List.getElem?_take, if_pos hlt]; exact hj)
    ·have hj2 := hvs j v hj
     clear hL hnew hgrow hend hroom hshift
     rw [f3 _ (by omega), if_neg (by omega), if_pos (by omega), show k * sz + j - k * sz = j by omega]; exact hj
    ·have hj2 := hcv j v hj
     clear hL hnew hgrow hend hroom hshift
     rw [f3 _ (by omega), if_pos (by omega), List.getElem?_drop, show k * sz + (j + sz - (k + 1) * sz) = j by omega]; exact hj
   ·have : k = len := by omega
    subst this
    refine (hend (some ⟨b', 0, none⟩) k cap' vb' (vd + vo) vcap' cv vs w hlc hlt (by omega) p1 q1 (fun hh => by cases hh) (fun a ha j v hj => by cases ha; rw [Addr.add_lit, Nat.zero_add]; exact p4' j v hj) q4 _ rfl).mono ?_
    rintro e w' ⟨rfl, rfl⟩
    refine hnew (heap_alloc_eq w.drew _) (fun x hx => heap_alloc_lt w.drew _ hx) (by simp) ⟨rfl, rfl⟩ (row_size p1 q1 hzc (grownCap_ge w _ _ _)) (fun j v hj => ?_)
    have e1 : cv.take (k * sz) = cv := by rw [← p1, List.take_length]
    have e2 : cv.drop (k * sz) = [] := by rw [← p1, List.drop_length]
    rw [e1, e2, List.append_nil] at hj
    rw [List.getElem?_toArray, List.getElem?_append_left (List.getElem?_eq_some_iff.1 hj).1]; exact hj
  ·-- in place
   have hroomc : (len + 1) * sz ≤ c.size := Nat.le_trans (Nat.mul_le_mul_right _ hge) (by omega)
   have h5 : (len + 1) * sz = len * sz + sz := Nat.succ_mul len sz
   have hput : ∀ {w' : World} {c2 : Array Value}, w'.heap[b']? = some (.cells c2 el (0, 0)) → c2.size = c.size → (∀ x, x ≠ b' → w'.heap[x]? = w.heap[x]?) → w'.heap.size = w.heap.size → (w'.os = w.os ∧ w'.output = w.output) →
     (∀ (j : Nat) (v : Value), (cv.take (k * sz) ++ vs ++ cv.drop (k * sz))[j]? = some v → c2[j]? = some v) →
     ∃ v I', Ending.returned (.slice (some ⟨b', 0, none⟩) (len + 1) cap') = .returned v ∧ VR I' (.sl ⟨some (H.n, 0), len + 1, len + 1, some sz⟩) v ∧
      Rel I' ((H.set b .dead).pushT (some (el, none)) (.cells (cs.take (k * sz) ++ vh ++ cs.drop (k * sz)) false)) w' ∧ Step I H w I' ((H.set b .dead).pushT (some (el, none)) (.cells (cs.take (k * sz) ++ vh ++ cs.drop (k * sz)) false)) w' := by
    intro w' c2 h1 h2 h3 h4 h5 h6
    obtain ⟨r1, r2⟩ := hR.mvT (some (el, none)) hj hg c1 h2 h1 h3 h4 h5 (fun _ _ hh => by cases hh; exact ⟨rfl, fun k hk => by cases hk⟩) (mid_cells p2' q2 p3 q3 h6)
    exact ⟨_, _, rfl, hVR (by simp [Inj.mv]) hge (by simpa [Inj.mv] using z1) z2, r1, r2⟩
   rcases Nat.lt_or_ge k len with hk | hk
   ·have hvc : vc.size ≠ 0 := by
     obtain ⟨u, u1, _⟩ := k2 0 _ (List.getElem?_eq_getElem (by omega))
     have := (Array.getElem?_eq_some_iff.1 u1).1
     omega
    have h6 : (k + 1) * sz = k * sz + sz := Nat.succ_mul k sz
    have hdl : (cv.drop (k * sz)).length = len * sz - k * sz := by rw [List.length_drop, p1]
    refine (hshift b' len cap' k vb' (vd + vo) vcap' cv vs w hk hge g6 hbv p1 q1 p4' (fun j hj => by rw [cell_of c1, Array.getElem?_eq_getElem (by omega)]; rfl) (fun j _ => hfz j) q4 p3 q3 vel el vc.size c.size
     (by simp [World.shape?, k1]) (by simp [World.shape?, c1]) hvc (by omega) (hfz _) (hfz _)).mono ?_
    rintro e w' ⟨rfl, rfl⟩
    have hes := setCells_ext (b := b') (cv.drop (k * sz)) ((k + 1) * sz) w.drew
    obtain ⟨x2, f1, f2, f3, f4, f5, f6⟩ := sets_two (w := w.drew) (W := w.drew.setCells b' ((k + 1) * sz) (cv.drop (k * sz))) (cv.drop (k * sz)) vs ((k + 1) * sz) (k * sz) c1 rfl hes
    generalize (w.drew.setCells b' ((k + 1) * sz) (cv.drop (k * sz))).setCells b' (k * sz) vs = w2 at *
    have hcv : ∀ j v, cv[j]? = some v → j < len * sz := fun j v hj => by have := (List.getElem?_eq_some_iff.1 hj).1; omega
    have hvs : ∀ j v, vs[j]? = some v → j < sz := fun j v hj => by have := (List.getElem?_eq_some_iff.1 hj).1; omega
    refine hput f1 f2 (fun x hx => f4 x hx) f5 f6 (fun j v hj => hL j v x2 hj (fun j v hlt hj => ?_) (fun j v hj => ?_) (fun j v hle hj => ?_))
    ·have hj2 := hcv j v hj
     clear hL hput hgrow hend hroom hshift
     rw [f3 j (by omega), if_neg (by omega), if_neg (by omega)]
     exact hcell j v hj
    ·have hj2 := hvs j v hj
     clear hL hput hgrow hend hroom hshift
     rw [f3 _ (by omega), if_pos (by omega), show k * sz + j - k * sz = j by omega]; exact hj
    ·have hj2 := hcv j v hj
     clear hL hput hgrow hend hroom hshift
     rw [f3 _ (by omega), if_neg (by omega), if_pos (by omega), List.getElem?_drop, show k * sz + (j + sz - (k + 1) * sz) = j by omega]; exact hj
   ·have : k = len := by omega
    subst this
    refine (hroom b' k cap' vb' (vd + vo) vcap' vs w hge g6 q1 q4 q3 c1 hfr hroomc).mono ?_
    rintro e w' ⟨rfl, rfl⟩
    obtain ⟨x2, e1, e2, e3⟩ := setCells_eq vs (k * sz) w c el (0, 0) c1
    refine hput e1 e2 (fun zz hzz => setCells_ne _ _ w zz hzz) (setCells_size _ _ w) (setCells_ext _ _ w) (fun j v hj => ?_)
    refine hL j v x2 hj (fun j v hlt hj => ?_) (fun j v hj => ?_) (fun j v hle hj => ?_)
    ·have := hcell j v hj
     rw [e3 j (Array.getElem?_eq_some_iff.1 this).1, if_neg (by omega)]; exact this
    ·have := (List.getElem?_eq_some_iff.1 hj).1
     rw [e3 _ (by omega), if_pos (by omega), show k * sz + j - k * sz = j by omega]; exact hj
    ·have := (List.getElem?_eq_some_iff.1 hj).1
     omega
end
end Go.Proofs.YtbphjihgbenkdaaGreat.HQ
