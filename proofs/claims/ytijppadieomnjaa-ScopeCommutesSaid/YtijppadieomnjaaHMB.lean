/- What the abstract heap and values say of the model's: the relation, and its laws. Conditions: none (definitions and lemmas). -/
import Derived.Test.YtijppadieomnjaaHMD
import Derived.Calls
import Derived.CallsIn
import Derived.ControlIn
import Derived.TacticsIn
import Derived.OrdersIn
import Derived.RangeFuncLeaves
import Derived.RangeFuncRecord
import Derived.Tactics
import Derived.Orders
import Derived.Laws.Sem
import Derived.Laws.World
import Derived.Laws.Cells
import Derived.Laws.Append
import Derived.Laws.MakeOwn
import Derived.Laws.StructEq
import Derived.Laws.IdiomCopy
namespace Go.Proofs.Ytijppadieomnjaa.HM
open Go
set_option linter.unusedSectionVars false

/-! the combinators' answers, taken apart -/
section
variable {α β : Type} {H : Heap} {n : Nat} {r : α × Heap}
/-- a run, so that its text is no function applied. -/
def app (m : M α) (H : Heap) (n : Nat) : Option (α × Heap) := m H n
theorem stk_some (h : app (stk : M α) H n = some r) : False := by simp [app, stk] at h
theorem gd_some {b : Bool} {m : M α} (h : gd b m H n = some r) : b = true ∧ app (m) H n = some r := by
  cases b with
  | true => exact ⟨rfl, h⟩
  | false => exact (stk_some (H := H) (n := n) (r := r) h).elim
theorem asI_some {k : IntKind} {v : HV} {f : Int → M α} (h : asI k v f H n = some r) : ∃ m, v = .int k m ∧ app (f m) H n = some r := by
  cases v <;> simp only [asI] at h <;> try exact (stk_some h).elim
  obtain ⟨hk, h1⟩ := gd_some h
  clear h
  simp at hk; subst hk; exact ⟨_, rfl, h1⟩
theorem asB_some {v : HV} {f : Bool → M α} (h : asB v f H n = some r) : ∃ m, v = .bool m ∧ app (f m) H n = some r := by
  cases v <;> simp only [asB] at h <;> first | exact (stk_some h).elim | exact ⟨_, rfl, h⟩
theorem asS_some {v : HV} {f : ByteArray → M α} (h : asS v f H n = some r) : ∃ m, v = .str m ∧ app (f m) H n = some r := by
  cases v <;> simp only [asS] at h <;> first | exact (stk_some h).elim | exact ⟨_, rfl, h⟩
theorem asP_some {v : HV} {f : Option (Nat × Nat) → M α} (h : asP v f H n = some r) : ∃ m, v = .ptr m ∧ app (f m) H n = some r := by
  cases v <;> simp only [asP] at h <;> first | exact (stk_some h).elim | exact ⟨_, rfl, h⟩
theorem asSl_some {v : HV} {f : Sl → M α} (h : asSl v f H n = some r) : ∃ m, v = .sl m ∧ app (f m) H n = some r := by
  cases v <;> simp only [asSl] at h <;> first | exact (stk_some h).elim | exact ⟨_, rfl, h⟩
theorem asA_some {v : HV} {f : List HV → M α} (h : asA v f H n = some r) : ∃ m, v = .agg m ∧ app (f m) H n = some r := by
  cases v <;> simp only [asA] at h <;> first | exact (stk_some h).elim | exact ⟨_, rfl, h⟩
theorem asT_some {v : HV} {f : List HV → M α} (h : asT v f H n = some r) : ∃ m, v = .tup m ∧ app (f m) H n = some r := by
  cases v <;> simp only [asT] at h <;> first | exact (stk_some h).elim | exact ⟨_, rfl, h⟩
theorem uc_some {vs : List HV} {f : HV → List HV → M α} (h : uc vs f H n = some r) : ∃ v l, vs = v :: l ∧ app (f v l) H n = some r := by
  cases vs <;> simp only [uc] at h <;> first | exact (stk_some h).elim | exact ⟨_, _, rfl, h⟩
theorem nl_some {vs : List HV} {m : M α} (h : nl vs m H n = some r) : vs = [] ∧ app (m) H n = some r := by
  cases vs <;> simp only [nl] at h <;> first | exact (stk_some h).elim | exact ⟨rfl, h⟩
theorem sc1_some {v : HV} {m : M α} (h : sc1 v m H n = some r) : v.sc = true ∧ app (m) H n = some r := by
  cases v <;> simp only [sc1] at h <;> first | exact (stk_some h).elim | exact ⟨rfl, h⟩
theorem nt_some {v : HV} {m : M α} (h : nt v m H n = some r) : (∀ l, v ≠ .tup l) ∧ app (m) H n = some r := by
  cases v <;> simp only [nt] at h <;> first | exact (stk_some h).elim | exact ⟨by simp, h⟩
theorem mP_some {p : Option (Nat × Nat)} {f : Nat → Nat → M α} (h : mP p f H n = some r) : ∃ b o, p = some (b, o) ∧ app (f b o) H n = some r := by
  cases p <;> simp only [mP] at h <;> first | exact (stk_some h).elim | exact ⟨_, _, rfl, h⟩
theorem gx_some {cs : List HV} {off : Nat} {f : HV → M α} (h : gx cs off f H n = some r) : ∃ v, cs[off]? = some v ∧ app (f v) H n = some r := by
  unfold gx at h
  cases hc : cs[off]? with
  | none => rw [hc] at h; exact (stk_some h).elim
  | some v => rw [hc] at h; exact ⟨v, rfl, h⟩
theorem gxN_some {cs : List HV} {off cnt : Nat} {f : List HV → M α} (h : gxN cs off cnt f H n = some r) :
    off + cnt ≤ cs.length ∧ app (f ((cs.drop off).take cnt)) H n = some r := by
  obtain ⟨h1, h2⟩ := gd_some h; exact ⟨by simpa using h1, h2⟩
theorem ix_some {s : Sl} {i : Int} {sz : Nat} {f : Nat → Nat → M α} (h : ix s i sz f H n = some r) :
    0 ≤ i ∧ i < s.len ∧ ∃ b o, s.p = some (b, o) ∧ app (f b (o + i.toNat * sz)) H n = some r := by
  obtain ⟨h1, h⟩ := gd_some h; obtain ⟨h2, h⟩ := gd_some h; obtain ⟨b, o, h3, h⟩ := mP_some h
  exact ⟨by simpa using h1, by simpa using h2, b, o, h3, h⟩
theorem ldC_some {b o : Nat} {f : HV → M α} (h : ldC b o f H n = some r) :
    ∃ cs ro v, H.get b = .cells cs ro ∧ cs[o]? = some v ∧ app (f v) H n = some r := by
  unfold ldC at h; split at h
  · obtain ⟨v, h1, h2⟩ := gx_some h; exact ⟨_, _, v, by assumption, h1, h2⟩
  · cases h
theorem ldN_some {b o cnt : Nat} {f : List HV → M α} (h : ldN b o cnt f H n = some r) :
    ∃ cs ro, H.get b = .cells cs ro ∧ o + cnt ≤ cs.length ∧ app (f ((cs.drop o).take cnt)) H n = some r := by
  unfold ldN at h; split at h
  · obtain ⟨h1, h2⟩ := gxN_some h; exact ⟨_, _, by assumption, h1, h2⟩
  · cases h
theorem stC_some {b o : Nat} {v : HV} {m : M α} (h : stC b o v m H n = some r) :
    ∃ cs, H.get b = .cells cs false ∧ o < cs.length ∧ v.sc = true ∧ app m (H.set b (.cells (cs.set o v) false)) n = some r := by
  unfold stC at h; split at h
  · obtain ⟨h1, h⟩ := gd_some h; obtain ⟨h2, h⟩ := sc1_some h; exact ⟨_, by assumption, by simpa using h1, h2, h⟩
  · cases h
theorem stN_some {b o : Nat} {vs : List HV} {m : M α} (h : stN b o vs m H n = some r) :
    ∃ cs, H.get b = .cells cs false ∧ o + vs.length ≤ cs.length ∧ app m (H.set b (.cells (putN cs o vs) false)) n = some r := by
  unfold stN at h; split at h
  · obtain ⟨h1, h⟩ := gd_some h; exact ⟨_, by assumption, by simpa using h1, h⟩
  · cases h
theorem bnd_some {m : M β} {k : β → M α} (h : bnd m k H n = some r) : ∃ x H', m H n = some (x, H') ∧ app (k x) H' n = some r := by
  unfold bnd at h; split at h
  · exact ⟨_, _, by assumption, h⟩
  · cases h
theorem Sc.d_some {s : Sc} {x : HV} {K : HV → M α} (h : s.d x K H n = some r) : app (K x) H n = some r := by
  cases s <;> simp only [Sc.d] at h
  · obtain ⟨m, rfl, g⟩ := asI_some h; exact g
  · obtain ⟨m, rfl, g⟩ := asB_some h; exact g
  · obtain ⟨m, rfl, g⟩ := asS_some h; exact g
  · obtain ⟨m, rfl, g⟩ := asP_some h; exact g
  · obtain ⟨m, rfl, g⟩ := asSl_some h; exact g
  · exact h
theorem Sc.ds_some {l : List Sc} : ∀ {x : List HV} {K : List HV → M α}, Sc.ds l x K H n = some r → app (K x) H n = some r := by
  induction l with
  | nil => intro x K h; simp only [Sc.ds] at h; obtain ⟨rfl, g⟩ := nl_some h; exact g
  | cons s l ih =>
    intro x K h; simp only [Sc.ds] at h
    obtain ⟨v, t, rfl, g⟩ := uc_some h
    exact ih (K := fun vs' => K (v :: vs')) (Sc.d_some g)
theorem Sh1.d_some {s : Sh1} {x : HV} {K : HV → M α} (h : s.d x K H n = some r) : app (K x) H n = some r := by
  cases s <;> simp only [Sh1.d] at h
  · exact Sc.d_some h
  · obtain ⟨m, rfl, g⟩ := asA_some h; exact Sc.ds_some g
  · obtain ⟨m, rfl, g⟩ := asA_some h; exact g
theorem Sh1.ds_some {l : List Sh1} : ∀ {x : List HV} {K : List HV → M α}, Sh1.ds l x K H n = some r → app (K x) H n = some r := by
  induction l with
  | nil => intro x K h; simp only [Sh1.ds] at h; obtain ⟨rfl, g⟩ := nl_some h; exact g
  | cons s l ih =>
    intro x K h; simp only [Sh1.ds] at h
    obtain ⟨v, t, rfl, g⟩ := uc_some h
    exact ih (K := fun vs' => K (v :: vs')) (Sh1.d_some g)
theorem Sh.d_some {s : Sh} {x : HV} {K : HV → M α} (h : s.d x K H n = some r) : app (K x) H n = some r := by
  cases s <;> simp only [Sh.d] at h
  · exact Sh1.d_some h
  · obtain ⟨m, rfl, g⟩ := asT_some h; exact Sh1.ds_some g
end

/-! the relation -/
structure Inj where
  j : Nat → Option (Nat × Nat)
  sz : Nat → Option Nat

structure Inj.le (I I' : Inj) : Prop where
  j : ∀ b x, I.j b = some x → I'.j b = some x
  sz : ∀ b x, I.sz b = some x → I'.sz b = some x
theorem Inj.le.refl (I : Inj) : I.le I := ⟨fun _ _ h => h, fun _ _ h => h⟩
theorem Inj.le.trans {I I' I'' : Inj} (h : I.le I') (h' : I'.le I'') : I.le I'' := ⟨fun b x e => h'.j b x (h.j b x e), fun b x e => h'.sz b x (h.sz b x e)⟩

mutual
inductive VR (I : Inj) : HV → Value → Prop
  | int (k : IntKind) (n : Int) : VR I (.int k n) (.int k n)
  | bool (b : Bool) : VR I (.bool b) (.bool b)
  | str (s : ByteArray) : VR I (.str s) (.string s)
  | ptrN : VR I (.ptr none) (.pointer none)
  | ptr {b o b' d : Nat} : I.j b = some (b', d) → VR I (.ptr (some (b, o))) (.pointer (some ⟨b', d + o, none⟩))
  | slN {len cap : Nat} {opn : Option Nat} : VR I (.sl ⟨none, len, cap, opn⟩) (.slice none len cap)
  | sl {b o len cap b' d cap' : Nat} {opn : Option Nat} : I.j b = some (b', d) → cap ≤ cap' → (opn = none → cap' = cap) →
      (∀ es, opn = some es → ∃ s, I.sz b' = some s ∧ d + o + cap' * es ≤ s) → VR I (.sl ⟨some (b, o), len, cap, opn⟩) (.slice (some ⟨b', d + o, none⟩) len cap')
  | slE {b o : Nat} {A : Addr} : VR I (.sl ⟨some (b, o), 0, 0, none⟩) (.slice (some A) 0 0)
  | func {f : Nat} {first cap : List HV} {f1 c1 : List Value} : VRs I first f1 → VRs I cap c1 → VR I (.func f first cap) (.func (.func f) f1.toArray c1.toArray)
  | yld {l l' : Nat} : I.j l = some (l', 0) → VR I (.yld l) (.func (.yield l') #[] #[])
  | nilFunc : VR I .nilFunc .nilFunc
  | nilIface : VR I .nilIface .nilIface
  | agg {cs : List HV} {l : List Value} : VRs I cs l → (∀ v ∈ l, v.oneCell' = true) → VR I (.agg cs) (.agg l.toArray)
  | tup {cs : List HV} {l : List Value} : VRs I cs l → VR I (.tup cs) (.tuple l.toArray)
inductive VRs (I : Inj) : List HV → List Value → Prop
  | nil : VRs I [] []
  | cons {h : HV} {v : Value} {hs : List HV} {vs : List Value} : VR I h v → VRs I hs vs → VRs I (h :: hs) (v :: vs)
end
mutual
theorem VR.mono {I I' : Inj} (hI : I.le I') : ∀ {h v}, VR I h v → VR I' h v
  | _, _, .int k n => .int k n
  | _, _, .bool b => .bool b
  | _, _, .str s => .str s
  | _, _, .ptrN => .ptrN
  | _, _, .ptr h => .ptr (hI.j _ _ h)
  | _, _, .slN => .slN
  | _, _, .sl h h1 h2 h3 => .sl (hI.j _ _ h) h1 h2 fun es e => let ⟨s, a, b⟩ := h3 es e; ⟨s, hI.sz _ _ a, b⟩
  | _, _, .slE => .slE
  | _, _, .func a b => .func (VRs.mono hI a) (VRs.mono hI b)
  | _, _, .yld h => .yld (hI.j _ _ h)
  | _, _, .nilFunc => .nilFunc
  | _, _, .nilIface => .nilIface
  | _, _, .agg a b => .agg (VRs.mono hI a) b
  | _, _, .tup a => .tup (VRs.mono hI a)
theorem VRs.mono {I I' : Inj} (hI : I.le I') : ∀ {h v}, VRs I h v → VRs I' h v
  | _, _, .nil => .nil
  | _, _, .cons a b => .cons (VR.mono hI a) (VRs.mono hI b)
end
theorem VR.sc {I : Inj} {h : HV} {v : Value} (hv : VR I h v) : v.oneCell' = h.sc := by cases hv <;> rfl
theorem VRs.length {I : Inj} {hs : List HV} : ∀ {vs : List Value}, VRs I hs vs → vs.length = hs.length := by
  induction hs with
  | nil => intro vs h; cases h; rfl
  | cons h hs ih => intro vs h'; cases h' with | cons a b => simp [ih b]
theorem VRs.get {I : Inj} {hs : List HV} : ∀ {vs : List Value} {i : Nat} {h : HV}, VRs I hs vs → hs[i]? = some h → ∃ v, vs[i]? = some v ∧ VR I h v := by
  induction hs with
  | nil => intro vs i h _ e; simp at e
  | cons x hs ih =>
    intro vs i h hr e
    cases hr with
    | cons a b => cases i with
      | zero => simp at e; subst e; exact ⟨_, rfl, a⟩
      | succ i => simp at e; simpa using ih b e
theorem VRs.of_get {I : Inj} {hs : List HV} : ∀ {vs : List Value}, vs.length = hs.length → (∀ (i : Nat) (h : HV) (v : Value), hs[i]? = some h → vs[i]? = some v → VR I h v) → VRs I hs vs := by
  induction hs with
  | nil => intro vs hl _; have : vs = [] := by simpa using hl
           subst this; exact .nil
  | cons x hs ih =>
    intro vs hl h
    cases vs with
    | nil => simp at hl
    | cons v vs => exact .cons (h 0 x v rfl rfl) (ih (by simpa using hl) fun i a b e1 e2 => h (i + 1) a b (by simpa using e1) (by simpa using e2))
theorem VRs.append {I : Inj} {h1 h2 : List HV} {v1 v2 : List Value} (a : VRs I h1 v1) (b : VRs I h2 v2) : VRs I (h1 ++ h2) (v1 ++ v2) := by
  induction h1 generalizing v1 with
  | nil => cases a; exact b
  | cons x h1 ih => cases a with | cons p q => exact .cons p (ih q)

/-- one cell. -/
def VC (I : Inj) (h : HV) (v : Value) : Prop := VR I h v ∧ h.sc = true
theorem VC.mono {I I' : Inj} (hI : I.le I') {h v} (a : VC I h v) : VC I' h v := ⟨a.1.mono hI, a.2⟩

/-- what the loops of a program are: by their site the function, how many slots, the parameters, the assignment, the body. -/
class Sites where
  ok : Nat → Nat → Nat → Array Tmp → Code → Code → Prop
section
variable [Sites]
def LRel (I : Inj) (k : Nat) (vs : List (Nat × HV)) (st : LoopState) (pd : Option Code) (r : Loop) : Prop :=
  r.state = st ∧ r.pending = pd ∧ Sites.ok k 0 r.tmps.size r.params r.assign r.body ∧ ∀ p ∈ vs, VR I p.2 (r.tmps.getD p.1 undef)
theorem LRel.mono {I I' : Inj} (hI : I.le I') {k : Nat} {vs : List (Nat × HV)} {st : LoopState} {pd : Option Code} {r : Loop} (h : LRel I k vs st pd r) : LRel I' k vs st pd r :=
  ⟨h.1, h.2.1, h.2.2.1, fun p hp => (h.2.2.2 p hp).mono hI⟩
structure Rel (I : Inj) (H : Heap) (w : World) : Prop where
  bnd : ∀ b x, I.j b = some x → b < H.n
  img : ∀ b b' d, I.j b = some (b', d) → b' < w.heap.size
  obj : ∀ b b' d cs ro, I.j b = some (b', d) → H.get b = .cells cs ro → ∃ c el fr, w.heap[b']? = some (.cells c el fr) ∧
    (∀ i h, cs[i]? = some h → ∃ v, c[d + i]? = some v ∧ VC I h v) ∧ (ro = false → d = 0 ∧ fr = (0, 0))
  inj : ∀ b1 b2 b' d1 d2 c1 c2 ro, I.j b1 = some (b', d1) → I.j b2 = some (b', d2) → H.get b1 = .cells c1 false → H.get b2 = .cells c2 ro → b1 = b2
  sz : ∀ b' s, I.sz b' = some s → ∃ c el fr, w.heap[b']? = some (.cells c el fr) ∧ c.size = s
  loop : ∀ b b' d k vs st pd, I.j b = some (b', d) → H.get b = .loop k vs st pd → d = 0 ∧ ∃ r, w.heap[b']? = some (.loop r) ∧ LRel I k vs st pd r
  linj : ∀ b1 b2 b' d1 d2 k1 vs1 st1 pd1 k2 vs2 st2 pd2, I.j b1 = some (b', d1) → I.j b2 = some (b', d2) → H.get b1 = .loop k1 vs1 st1 pd1 → H.get b2 = .loop k2 vs2 st2 pd2 → b1 = b2
end

structure Step (I : Inj) (H : Heap) (w : World) (I' : Inj) (H' : Heap) (w' : World) : Prop where
  ext : w'.os = w.os ∧ w'.output = w.output
  le : I.le I'
  n : H.n ≤ H'.n
  size : w.heap.size ≤ w'.heap.size
  keep : ∀ b', b' < w.heap.size → (∀ b d cs, I.j b = some (b', d) → H.get b ≠ .cells cs false) → (∀ b d k vs st pd, I.j b = some (b', d) → H.get b ≠ .loop k vs st pd) → w'.heap[b']? = w.heap[b']?
  img1 : ∀ b b' d, I'.j b = some (b', d) → w.heap.size ≤ b' ∨ ∃ b0 d0, I.j b0 = some (b', d0)
  img2 : ∀ b b' d cs, I'.j b = some (b', d) → H'.get b = .cells cs false → w.heap.size ≤ b' ∨ ∃ b0 d0 c0, I.j b0 = some (b', d0) ∧ H.get b0 = .cells c0 false
  img3 : ∀ b b' d k vs st pd, I'.j b = some (b', d) → H'.get b = .loop k vs st pd → w.heap.size ≤ b' ∨ ∃ b0 d0 k0 vs0 st0 pd0, I.j b0 = some (b', d0) ∧ H.get b0 = .loop k0 vs0 st0 pd0

theorem Step.refl (I : Inj) (H : Heap) (w : World) : Step I H w I H w :=
  ⟨⟨rfl, rfl⟩, .refl I, Nat.le_refl _, Nat.le_refl _, fun _ _ _ _ => rfl, fun b _b' d h => .inr ⟨b, d, h⟩, fun b _b' d cs h e => .inr ⟨b, d, cs, h, e⟩, fun b _b' d k vs st pd h e => .inr ⟨b, d, k, vs, st, pd, h, e⟩⟩

theorem Step.trans {I1 I2 I3 : Inj} {H1 H2 H3 : Heap} {w1 w2 w3 : World} (a : Step I1 H1 w1 I2 H2 w2) (b : Step I2 H2 w2 I3 H3 w3) : Step I1 H1 w1 I3 H3 w3 where
  ext := ⟨b.ext.1.trans a.ext.1, b.ext.2.trans a.ext.2⟩
  le := a.le.trans b.le
  n := Nat.le_trans a.n b.n
  size := Nat.le_trans a.size b.size
  keep := by
    intro b' hb hn hl
    rw [b.keep b' (Nat.lt_of_lt_of_le hb a.size) ?_ ?_, a.keep b' hb hn hl]
    · intro x d cs hx hc
      rcases a.img2 x b' d cs hx hc with h | ⟨b0, d0, c0, h0, h1⟩
      · omega
      · exact hn b0 d0 c0 h0 h1
    · intro x d k vs st pd hx hc
      rcases a.img3 x b' d k vs st pd hx hc with h | ⟨b0, d0, k0, vs0, st0, pd0, h0, h1⟩
      · omega
      · exact hl b0 d0 k0 vs0 st0 pd0 h0 h1
  img1 := by
    intro x b' d hx
    rcases b.img1 x b' d hx with h | ⟨b0, d0, h0⟩
    · exact .inl (Nat.le_trans a.size h)
    · exact a.img1 b0 b' d0 h0
  img2 := by
    intro x b' d cs hx hc
    rcases b.img2 x b' d cs hx hc with h | ⟨b0, d0, c0, h0, h1⟩
    · exact .inl (Nat.le_trans a.size h)
    · exact a.img2 b0 b' d0 c0 h0 h1
  img3 := by
    intro x b' d k vs st pd hx hc
    rcases b.img3 x b' d k vs st pd hx hc with h | ⟨b0, d0, k0, vs0, st0, pd0, h0, h1⟩
    · exact .inl (Nat.le_trans a.size h)
    · exact a.img3 b0 b' d0 k0 vs0 st0 pd0 h0 h1

/-- a local value. -/
def SVR (I : Inj) (β : Nat → Option Nat) (B : Bx) : SV → Value → Prop
  | .un, _ => True
  | .v h, v => VR I h v
  | .loc d off, v => B.get d ≠ none ∧ ∃ b, β d = some b ∧ v = .pointer (some ⟨b, off, none⟩)
  | .lsl d n, v => B.get d ≠ none ∧ ∃ b, β d = some b ∧ v = .slice (some ⟨b, 0, none⟩) n n

structure BR (I : Inj) (β : Nat → Option Nat) (w : World) (B : Bx) : Prop where
  box : ∀ d cs, B.get d = some cs → ∃ b c el, β d = some b ∧ w.heap[b]? = some (.cells c el (0, 0)) ∧ VRs I cs c.toList ∧ (∀ v ∈ c.toList, v.oneCell' = true)
  inj : ∀ d1 d2 b, B.get d1 ≠ none → B.get d2 ≠ none → β d1 = some b → β d2 = some b → d1 = d2
  img : ∀ d b, B.get d ≠ none → β d = some b → ∀ x e, I.j x ≠ some (b, e)

def FR (I : Inj) (β : Nat → Option Nat) (B : Bx) (F : Fr) (a : Act) : Prop := ∀ t, SVR I β B (F.get t) (a.tmps.getD t undef)

theorem SVR.mono {I I' : Inj} {β β' : Nat → Option Nat} {B B' : Bx} (hI : I.le I') (hb : ∀ d b, B.get d ≠ none → β d = some b → β' d = some b) (hB : ∀ d, B.get d ≠ none → B'.get d ≠ none) {s v} (h : SVR I β B s v) : SVR I' β' B' s v := by
  cases s with
  | un => trivial
  | v x => exact VR.mono hI h
  | loc d off => obtain ⟨h0, b, h1, h2⟩ := h; exact ⟨hB d h0, b, hb _ _ h0 h1, h2⟩
  | lsl d n => obtain ⟨h0, b, h1, h2⟩ := h; exact ⟨hB d h0, b, hb _ _ h0 h1, h2⟩

/-- boxes are untouched by what the abstract heap does. -/
theorem BR.step {I I' : Inj} {H H' : Heap} {w w' : World} {β : Nat → Option Nat} {B : Bx} (h : BR I β w B) (hs : Step I H w I' H' w') : BR I' β w' B where
  box := by
    intro d cs e
    obtain ⟨b, c, el, h1, h2, h3, h4⟩ := h.box d cs e
    have hlt : b < w.heap.size := by
      have := (Array.getElem?_eq_some_iff.1 h2).1; exact this
    refine ⟨b, c, el, h1, ?_, h3.mono hs.le, h4⟩
    rw [hs.keep b hlt (fun x e' cs hx _ => h.img d b (by simp [e]) h1 x e' hx) (fun x e' _ _ _ _ hx _ => h.img d b (by simp [e]) h1 x e' hx)]; exact h2
  inj := h.inj
  img := by
    intro d b e hb x e' hx
    rcases hs.img1 x b e' hx with hh | ⟨b0, d0, h0⟩
    · cases hB : B.get d with
      | none => exact e hB
      | some cs =>
        obtain ⟨b2, c, el, h1, h2, _⟩ := h.box d cs hB
        rw [hb] at h1; cases h1
        have := (Array.getElem?_eq_some_iff.1 h2).1
        omega
    · exact h.img d b e hb b0 d0 h0
end Go.Proofs.Ytijppadieomnjaa.HM
