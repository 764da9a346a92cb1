/- Lemmas for the row. Conditions: none. -/
import Derived.Test.YtbphjihgbenkdaaGreatHQI
namespace Go.Proofs.YtbphjihgbenkdaaGreat.HQ
set_option linter.unusedVariables false
set_option linter.unusedSectionVars false
set_option linter.unusedSimpArgs false
open Go
set_option linter.unusedSectionVars false
variable [Sites]
section
variable {E : Env} {P : Program} {I0 : Inj} {H0 : Heap} {w0 : World} {nt : Cx} {β : Nat → Option Nat} {I : Inj} {H : Heap} {w : World} {S : St} {a : Act}
variable {n : Nat} {r : Leaf × Heap} {next : Act → World → Prop} {Q : Exit → Act → World → Prop} {o : Oper}
theorem Rel.kill (h : Rel I H w) (b : Nat) : Rel I (H.set b .dead) w where
 bnd := h.bnd
 img := h.img
 obj := by
  intro x b' d cs ro e1 e2; simp only [Heap.set] at e2
  split at e2
  ·cases e2
  ·exact h.obj x b' d cs ro e1 e2
 inj := by
  intro b1 b2 b' d1 d2 c1 c2 ro e1 e2 e3 e4; simp only [Heap.set] at e3 e4
  split at e3 <;> split at e4 <;> first | cases e3; done | cases e4; done | exact h.inj b1 b2 b' d1 d2 c1 c2 ro e1 e2 e3 e4
 sz := h.sz
 spc := by
  intro x b' d s e1 e2; simp only [Heap.set] at e2
  split at e2
  ·cases e2
  ·exact h.spc x b' d s e1 e2
 ty := h.ty
 sinj := by
  intro b1 b2 b' d1 d2 s1 s2 e1 e2 e3 e4; simp only [Heap.set] at e3 e4
  split at e3 <;> split at e4 <;> first | cases e3; done | cases e4; done | exact h.sinj b1 b2 b' d1 d2 s1 s2 e1 e2 e3 e4
theorem Step.kill (I : Inj) (H : Heap) (w : World) (b : Nat) : Step I H w I (H.set b .dead) w where
 ext := ⟨rfl, rfl⟩
 le := .refl I
 n := Nat.le_refl _
 size := Nat.le_refl _
 keep := fun _ _ _ _ => rfl
 img1 := fun x _ d e => .inr ⟨x, d, e⟩
 img2 := by
  intro x b' d cs e1 e2; simp only [Heap.set] at e2
  split at e2
  ·cases e2
  ·exact .inr ⟨x, d, cs, e1, e2⟩
 img3 := by
  intro x b' d s e1 e2; simp only [Heap.set] at e2
  split at e2
  ·cases e2
  ·exact .inr ⟨x, d, s, e1, e2⟩
 lp := fun _ r h => ⟨r, h⟩
theorem Rel.mvT (h : Rel I H w) (t : Option (Nat × Option Nat)) {w' : World} {b b' : Nat} {cs cs2 : List HV} {c c2 : Array Value} {el : TypeId} (hj : I.j b = some (b', 0)) (hg : H.get b = .cells cs false)
  {fr : Nat × Nat} (hc0 : w.heap[b']? = some (.cells c el fr)) (hs : c2.size = c.size) (hw : w'.heap[b']? = some (.cells c2 el fr)) (hn : ∀ x, x ≠ b' → w'.heap[x]? = w.heap[x]?) (hsz : w'.heap.size = w.heap.size) (hext : w'.os = w.os ∧ w'.output = w.output)
  (ht : ∀ e s, t = some (e, s) → el = e ∧ ∀ k, s = some k → c2.size = k) (hc : ∀ (i : Nat) (x : HV), cs2[i]? = some x → ∃ v, c2[i]? = some v ∧ VC I x v) :
  Rel (I.mv H.n b') ((H.set b .dead).pushT t (.cells cs2 false)) w' ∧ Step I H w (I.mv H.n b') ((H.set b .dead).pushT t (.cells cs2 false)) w' := by
 have hle : I.le (I.mv H.n b') := ⟨fun x y e => (by simp only [Inj.mv]; rw [if_neg]; exact e; intro hx; rw [hx, h.j_none (Nat.le_refl _)] at e; cases e), fun _ _ e => e⟩
 have hbn : b < H.n := h.bnd b _ hj
 have gm : ∀ x, ((H.set b .dead).pushT t (.cells cs2 false)).get x = if x = H.n then .cells cs2 false else if x = b then .dead else H.get x := fun _ => rfl
 constructor
 ·constructor
  ·intro x y e; simp only [Inj.mv] at e; simp only [Heap.pushT, Heap.set]
   split at e
   ·omega
   ·have := h.bnd x y e; omega
  ·intro x b'' d e; rw [hsz]; simp only [Inj.mv] at e
   split at e
   ·cases e; exact h.img b _ 0 hj
   ·exact h.img x b'' d e
  ·intro x b'' d cs' ro e1 e2
   simp only [Inj.mv] at e1; rw [gm] at e2
   split at e1
   ·rename_i hx; rw [if_pos hx] at e2; cases e1; cases e2
    obtain ⟨c', el', fr', q3, _, q5⟩ := h.obj b _ 0 cs false hj hg
    rw [hc0] at q3; cases q3
    exact ⟨c2, el, fr, hw, fun i y hy => by
     obtain ⟨v, q1, q2⟩ := hc i y hy
     exact ⟨v, by simpa using q1, q2.mono hle⟩, fun _ => ⟨rfl, by rw [hs]; exact (q5 rfl).2⟩⟩
   ·rename_i hx; rw [if_neg hx] at e2
    split at e2
    ·cases e2
    ·rename_i hxb
     obtain ⟨c', el', fr, q1, q2, q3⟩ := h.obj x b'' d cs' ro e1 e2
     have hne : b'' ≠ b' := fun hh => hxb (h.inj b x b' 0 d cs cs' ro hj (hh ▸ e1) hg e2).symm
     exact ⟨c', el', fr, by rw [hn _ hne]; exact q1, fun i y hy => by
      obtain ⟨v, p1, p2⟩ := q2 i y hy; exact ⟨v, p1, p2.mono hle⟩, q3⟩
  ·intro b1 b2 b'' d1 d2 c1 c2' ro e1 e2 e3 e4
   simp only [Inj.mv] at e1 e2; rw [gm] at e3 e4
   split at e1 <;> split at e2
   ·omega
   ·rename_i h1 h2; rw [if_neg h2] at e4
    split at e4
    ·cases e4
    ·rename_i hxb; cases e1; exact absurd (h.inj b b2 _ 0 d2 cs c2' ro hj e2 hg e4).symm hxb
   ·rename_i h1 h2; rw [if_neg h1] at e3
    split at e3
    ·cases e3
    ·rename_i hxb; cases e2; exact absurd (h.inj b b1 _ 0 d1 cs c1 false hj e1 hg e3).symm hxb
   ·rename_i h1 h2; rw [if_neg h1] at e3; rw [if_neg h2] at e4
    split at e3 <;> split at e4 <;> first | cases e3; done | cases e4; done | exact h.inj b1 b2 b'' d1 d2 c1 c2' ro e1 e2 e3 e4
  ·intro x s e
   obtain ⟨c', el', fr, h1, h2⟩ := h.sz x s e
   by_cases hb : x = b'
   ·subst hb; rw [hc0] at h1; cases h1; exact ⟨c2, el, _, hw, by rw [hs]; exact h2⟩
   ·exact ⟨c', el', fr, by rw [hn _ hb]; exact h1, h2⟩
  ·intro x b'' d s e1 e2
   simp only [Inj.mv] at e1; rw [gm] at e2
   split at e1
   ·rename_i hx; rw [if_pos hx] at e2; cases e2
   ·rename_i hx; rw [if_neg hx] at e2
    split at e2
    ·cases e2
    ·obtain ⟨h0, r, q1, q2⟩ := h.spc x b'' d s e1 e2
     have hb : b'' ≠ b' := fun hh => by subst hh; rw [hc0] at q1; cases q1; exact q2.not_cells
     exact ⟨h0, r, by rw [hn _ hb]; exact q1, q2.mono hle⟩
  ·intro x b'' d t2 s e1 e2
   simp only [Inj.mv] at e1
   have e2' : (if x = H.n then t else H.ty x) = some (t2, s) := e2
   split at e1
   ·rename_i hx; rw [if_pos hx] at e2'; cases e1
    obtain ⟨q1, q2⟩ := ht _ _ e2'
    subst q1
    exact ⟨rfl, c2, _, hw, q2⟩
   ·rename_i hx; rw [if_neg hx] at e2'; exact h.tyK (CK.one hc0 hs hw hn) e1 e2'
  ·intro b1 b2 b'' d1 d2 s1 s2 e1 e2 e3 e4
   simp only [Inj.mv] at e1 e2; rw [gm] at e3 e4
   split at e1
   ·rename_i hx; rw [if_pos hx] at e3; cases e3
   split at e2
   ·rename_i hx; rw [if_pos hx] at e4; cases e4
   rename_i hx1 hx2
   rw [if_neg hx1] at e3; rw [if_neg hx2] at e4
   split at e3
   ·cases e3
   split at e4
   ·cases e4
   exact h.sinj b1 b2 b'' d1 d2 s1 s2 e1 e2 e3 e4
 ·constructor
  ·exact hext
  ·exact hle
  ·simp [Heap.pushT, Heap.set]
  ·omega
  ·intro x _ hx _
   by_cases hb : x = b'
   ·subst hb; exact absurd hg (hx b 0 cs hj)
   ·exact hn x hb
  ·intro x b'' d e; simp only [Inj.mv] at e
   split at e
   ·cases e; exact .inr ⟨b, 0, hj⟩
   ·exact .inr ⟨x, d, e⟩
  ·intro x b'' d cs' e1 e2; simp only [Inj.mv] at e1; rw [gm] at e2
   split at e1
   ·cases e1; exact .inr ⟨b, 0, cs, hj, hg⟩
   ·rename_i hx; rw [if_neg hx] at e2
    split at e2
    ·cases e2
    ·exact .inr ⟨x, d, cs', e1, e2⟩
  ·intro x b'' d s e1 e2; simp only [Inj.mv] at e1; rw [gm] at e2
   split at e1
   ·rename_i hx; rw [if_pos hx] at e2; cases e2
   ·rename_i hx; rw [if_neg hx] at e2
    split at e2
    ·cases e2
    ·exact .inr ⟨x, d, s, e1, e2⟩
  ·intro x r hr
   exact ⟨r, by rw [hn x (fun hh => by rw [hh, hc0] at hr; cases hr)]; exact hr⟩
theorem Rel.mv (h : Rel I H w) {w' : World} {b b' : Nat} {cs cs2 : List HV} {c c2 : Array Value} {el : TypeId} (hj : I.j b = some (b', 0)) (hg : H.get b = .cells cs false)
  {fr : Nat × Nat} (hc0 : w.heap[b']? = some (.cells c el fr)) (hs : c2.size = c.size) (hw : w'.heap[b']? = some (.cells c2 el fr)) (hn : ∀ x, x ≠ b' → w'.heap[x]? = w.heap[x]?) (hsz : w'.heap.size = w.heap.size) (hext : w'.os = w.os ∧ w'.output = w.output)
  (hc : ∀ (i : Nat) (x : HV), cs2[i]? = some x → ∃ v, c2[i]? = some v ∧ VC I x v) :
  Rel (I.mv H.n b') ((H.set b .dead).push (.cells cs2 false)) w' ∧ Step I H w (I.mv H.n b') ((H.set b .dead).push (.cells cs2 false)) w' := h.mvT none hj hg hc0 hs hw hn hsz hext (fun _ _ e => by cases e) hc
def AppT (P : Program) (t : TypeId) : Prop := (∃ e, P.underlying t = some (.slice e)) ∨ P.underlying t = some .string
theorem run_append_in {t t2 ty e : TypeId} {i : TypeInfo} (ht : P.underlying t = some (.slice e)) (h2 : AppT P t2) (hi : P.info? e = some i) {b oo sLen cap' m : Nat} {xv : Value} {news : List Value}
  (hlen : ∀ w, (Builtin.lenOf xv).run P w = .ok m w) (hf : (Builtin.firstCells i.size m xv).run P w = .ok news.toArray w) (hn : sLen + m ≤ cap')
  {c : Array Value} {el : TypeId} {fr : Nat × Nat} (hw : w.heap[b]? = some (.cells c el fr)) (hfr : Thaw c.size el fr) (ho : oo + sLen * i.size + news.length ≤ c.size) (h1 : ∀ v ∈ news, v.oneCell' = true) :
  (Builtin.append_ #[t, t2] ty #[.slice (some ⟨b, oo, none⟩) sLen cap', xv]).run P w = .ok (.slice (some ⟨b, oo, none⟩) (sLen + m) cap') (w.setCells b (oo + sLen * i.size) news) := by
 have hst := run_storeCells_cells (P := P) b (oo + sLen * i.size) news 0 w (by
   intro j hj; rw [cell_of hw, Array.getElem?_eq_getElem (by omega)]; rfl) (by intro j hj; exact frozen_of hw hfr (by omega)) h1
 simp only [Nat.add_zero] at hst
 rcases h2 with ⟨e2, h2⟩ | h2 <;> simp [Builtin.append_, run_underlying ht, run_underlying h2, sizeOf, typeInfo, hi, hlen, hn, hf, add_none, hst]
theorem run_append_in_none {t t2 ty e : TypeId} {i : TypeInfo} (ht : P.underlying t = some (.slice e)) (h2 : AppT P t2) (hi : P.info? e = some i) {sLen cap' : Nat} {xv : Value} {news : List Value}
  (hlen : ∀ w, (Builtin.lenOf xv).run P w = .ok 0 w) (hf : (Builtin.firstCells i.size 0 xv).run P w = .ok news.toArray w) (hn : sLen ≤ cap') :
  (Builtin.append_ #[t, t2] ty #[.slice none sLen cap', xv]).run P w = .ok (.slice none sLen cap') w := by
 rcases h2 with ⟨e2, h2⟩ | h2 <;> simp [Builtin.append_, run_underlying ht, run_underlying h2, sizeOf, typeInfo, hi, hlen, hn, hf]
theorem run_append_out {t t2 ty e : TypeId} {i : TypeInfo} {z : Value} (ht : P.underlying t = some (.slice e)) (h2 : AppT P t2) (hi : P.info? e = some i) (hz : i.zero = some z) {base : Option Addr} {sLen sCap m : Nat} {xv : Value} {olds news : List Value}
  (hlen : ∀ w, (Builtin.lenOf xv).run P w = .ok m w) (hf : (Builtin.firstCells i.size m xv).run P w.drew = .ok news.toArray w.drew)
  (hfo : (Builtin.firstCells i.size sLen (.slice base sLen sCap)).run P w.drew = .ok olds.toArray w.drew)
  (hg : sCap < sLen + m) (h63 : ((sLen + m : Nat) : Int) ≤ 9223372036854775807) (hfit : Builtin.nextslicecap (sLen + m) sCap * i.bytes ≤ 281474976710656) :
  (Builtin.append_ #[t, t2] ty #[.slice base sLen sCap, xv]).run P w = .ok (.slice (some ⟨w.heap.size, 0, none⟩) (sLen + m) (grownCap w (sLen + m) sCap e))
    (w.drew.alloc (.cells (olds ++ news ++ (Builtin.zeroCells z.cells (grownCap w (sLen + m) sCap e - (sLen + m))).toList).toArray e)) := by
 have hn : ¬ (sLen + m ≤ sCap) := by omega
 have h63' : ¬ (9223372036854775807 < ((sLen : Int) + (m : Int))) := by omega
 have h48' : ¬ (281474976710656 < Builtin.nextslicecap (sLen + m) sCap * i.bytes) := by omega
 rcases h2 with ⟨e2, h2⟩ | h2 <;>
 ·simp [Builtin.append_, run_underlying ht, run_underlying h2, sizeOf, typeInfo, zeroValue, hi, hz, hlen, hn, h63', h48', Question.forced, hf, hfo, newRow, grownCap]
  congr 2
  apply Array.ext'
  simp
end
end Go.Proofs.YtbphjihgbenkdaaGreat.HQ
