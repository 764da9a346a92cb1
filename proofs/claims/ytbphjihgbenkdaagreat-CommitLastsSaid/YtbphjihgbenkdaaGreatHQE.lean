/- Lemmas for the row. Conditions: none. -/
import Derived.Test.YtbphjihgbenkdaaGreatHQD
import Derived.Calls
import Derived.CallsIn
import Derived.ControlIn
import Derived.TacticsIn
import Derived.OrdersIn
import Derived.RangeFuncLeaves
import Derived.RangeFuncRecord
import Derived.Tactics
import Derived.Orders
import Derived.Laws.Sem
import Derived.Laws.World
import Derived.Laws.Cells
import Derived.Laws.Append
import Derived.Laws.MakeOwn
import Derived.Laws.StructEq
import Derived.Laws.IdiomCopy
import Derived.Laws.Entries
import Derived.ChangeKeysEq
namespace Go.Proofs.YtbphjihgbenkdaaGreat.HQ
set_option linter.unusedVariables false
set_option linter.unusedSectionVars false
set_option linter.unusedSimpArgs false
open Go
set_option linter.unusedSectionVars false
/-! the combinators' answers, taken apart -/
section
variable {α β : Type} {H : Heap} {n : Nat} {r : α × Heap}
def app (m : M α) (H : Heap) (n : Nat) : Option (α × Heap) := m H n
theorem stk_some (h : app (stk : M α) H n = some r) : False := by simp [app, stk] at h
theorem gd_some {b : Bool} {m : M α} (h : gd b m H n = some r) : b = true ∧ app (m) H n = some r := by
 cases b with
 | true => exact ⟨rfl, h⟩
 | false => exact (stk_some (H := H) (n := n) (r := r) h).elim
theorem asI_some {k : IntKind} {v : HV} {f : Int → M α} (h : asI k v f H n = some r) : ∃ m, v = .int k m ∧ app (f m) H n = some r := by
 cases v <;> simp only [asI] at h <;> try exact (stk_some h).elim
 obtain ⟨hk, h1⟩ := gd_some h
 clear h
 simp at hk; subst hk; exact ⟨_, rfl, h1⟩
theorem asB_some {v : HV} {f : Bool → M α} (h : asB v f H n = some r) : ∃ m, v = .bool m ∧ app (f m) H n = some r := by
 cases v <;> simp only [asB] at h <;> first | exact (stk_some h).elim | exact ⟨_, rfl, h⟩
theorem asS_some {v : HV} {f : ByteArray → M α} (h : asS v f H n = some r) : ∃ m, v = .str m ∧ app (f m) H n = some r := by
 cases v <;> simp only [asS] at h <;> first | exact (stk_some h).elim | exact ⟨_, rfl, h⟩
theorem asP_some {v : HV} {f : Option (Nat × Nat) → M α} (h : asP v f H n = some r) : ∃ m, v = .ptr m ∧ app (f m) H n = some r := by
 cases v <;> simp only [asP] at h <;> first | exact (stk_some h).elim | exact ⟨_, rfl, h⟩
theorem asSl_some {v : HV} {f : Sl → M α} (h : asSl v f H n = some r) : ∃ m, v = .sl m ∧ app (f m) H n = some r := by
 cases v <;> simp only [asSl] at h <;> first | exact (stk_some h).elim | exact ⟨_, rfl, h⟩
theorem asM_some {v : HV} {f : Option Nat → M α} (h : asM v f H n = some r) : ∃ m, v = .mp m ∧ app (f m) H n = some r := by
 cases v <;> simp only [asM] at h <;> first | exact (stk_some h).elim | exact ⟨_, rfl, h⟩
theorem asF_some {v : HV} {f : Bool → M α} (h : asF v f H n = some r) : ∃ m, v = .ifc m ∧ app (f m) H n = some r := by
 cases v <;> simp only [asF] at h <;> first | exact (stk_some h).elim | exact ⟨_, rfl, h⟩
theorem asA_some {v : HV} {f : List HV → M α} (h : asA v f H n = some r) : ∃ m, v = .agg m ∧ app (f m) H n = some r := by
 cases v <;> simp only [asA] at h <;> first | exact (stk_some h).elim | exact ⟨_, rfl, h⟩
theorem asT_some {v : HV} {f : List HV → M α} (h : asT v f H n = some r) : ∃ m, v = .tup m ∧ app (f m) H n = some r := by
 cases v <;> simp only [asT] at h <;> first | exact (stk_some h).elim | exact ⟨_, rfl, h⟩
theorem uc_some {vs : List HV} {f : HV → List HV → M α} (h : uc vs f H n = some r) : ∃ v l, vs = v :: l ∧ app (f v l) H n = some r := by
 cases vs <;> simp only [uc] at h <;> first | exact (stk_some h).elim | exact ⟨_, _, rfl, h⟩
theorem nl_some {vs : List HV} {m : M α} (h : nl vs m H n = some r) : vs = [] ∧ app (m) H n = some r := by
 cases vs <;> simp only [nl] at h <;> first | exact (stk_some h).elim | exact ⟨rfl, h⟩
theorem sc1_some {v : HV} {m : M α} (h : sc1 v m H n = some r) : v.sc = true ∧ app (m) H n = some r := by
 cases v <;> simp only [sc1] at h <;> first | exact (stk_some h).elim | exact ⟨rfl, h⟩
theorem nt_some {v : HV} {m : M α} (h : nt v m H n = some r) : (∀ l, v ≠ .tup l) ∧ app (m) H n = some r := by
 cases v <;> simp only [nt] at h <;> first | exact (stk_some h).elim | exact ⟨by simp, h⟩
theorem mP_some {p : Option (Nat × Nat)} {f : Nat → Nat → M α} (h : mP p f H n = some r) : ∃ b o, p = some (b, o) ∧ app (f b o) H n = some r := by
 cases p <;> simp only [mP] at h <;> first | exact (stk_some h).elim | exact ⟨_, _, rfl, h⟩
theorem gx_some {cs : List HV} {off : Nat} {f : HV → M α} (h : gx cs off f H n = some r) : ∃ v, cs[off]? = some v ∧ app (f v) H n = some r := by
 unfold gx at h
 cases hc : cs[off]? with
 | none => rw [hc] at h; exact (stk_some h).elim
 | some v => rw [hc] at h; exact ⟨v, rfl, h⟩
theorem gxN_some {cs : List HV} {off cnt : Nat} {f : List HV → M α} (h : gxN cs off cnt f H n = some r) :
  off + cnt ≤ cs.length ∧ app (f ((cs.drop off).take cnt)) H n = some r := by
 obtain ⟨h1, h2⟩ := gd_some h; exact ⟨by simpa using h1, h2⟩
theorem ix_some {s : Sl} {i : Int} {sz : Nat} {f : Nat → Nat → M α} (h : ix s i sz f H n = some r) :
  0 ≤ i ∧ i < s.len ∧ ∃ b o, s.p = some (b, o) ∧ app (f b (o + i.toNat * sz)) H n = some r := by
 obtain ⟨h1, h⟩ := gd_some h; obtain ⟨h2, h⟩ := gd_some h; obtain ⟨b, o, h3, h⟩ := mP_some h
 exact ⟨by simpa using h1, by simpa using h2, b, o, h3, h⟩
theorem ldC_some {b o : Nat} {f : HV → M α} (h : ldC b o f H n = some r) :
  ∃ cs ro v, H.get b = .cells cs ro ∧ cs[o]? = some v ∧ app (f v) H n = some r := by
 unfold ldC at h; split at h
 ·obtain ⟨v, h1, h2⟩ := gx_some h; exact ⟨_, _, v, by assumption, h1, h2⟩
 ·cases h
theorem ldN_some {b o cnt : Nat} {f : List HV → M α} (h : ldN b o cnt f H n = some r) :
  ∃ cs ro, H.get b = .cells cs ro ∧ o + cnt ≤ cs.length ∧ app (f ((cs.drop o).take cnt)) H n = some r := by
 unfold ldN at h; split at h
 ·obtain ⟨h1, h2⟩ := gxN_some h; exact ⟨_, _, by assumption, h1, h2⟩
 ·cases h
theorem stC_some {b o : Nat} {v : HV} {m : M α} (h : stC b o v m H n = some r) :
  ∃ cs, H.get b = .cells cs false ∧ o < cs.length ∧ v.sc = true ∧ app m (H.set b (.cells (cs.set o v) false)) n = some r := by
 unfold stC at h; split at h
 ·obtain ⟨h1, h⟩ := gd_some h; obtain ⟨h2, h⟩ := sc1_some h; exact ⟨_, by assumption, by simpa using h1, h2, h⟩
 ·cases h
theorem stN_some {b o : Nat} {vs : List HV} {m : M α} (h : stN b o vs m H n = some r) :
  ∃ cs, H.get b = .cells cs false ∧ o + vs.length ≤ cs.length ∧ app m (H.set b (.cells (putN cs o vs) false)) n = some r := by
 unfold stN at h; split at h
 ·obtain ⟨h1, h⟩ := gd_some h; exact ⟨_, by assumption, by simpa using h1, h⟩
 ·cases h
theorem bnd_some {m : M β} {k : β → M α} (h : bnd m k H n = some r) : ∃ x H', m H n = some (x, H') ∧ app (k x) H' n = some r := by
 unfold bnd at h; split at h
 ·exact ⟨_, _, by assumption, h⟩
 ·cases h
theorem Sc.d_some {s : Sc} {x : HV} {K : HV → M α} (h : s.d x K H n = some r) : app (K x) H n = some r := by
 cases s <;> simp only [Sc.d] at h
 ·obtain ⟨m, rfl, g⟩ := asI_some h; exact g
 ·obtain ⟨m, rfl, g⟩ := asB_some h; exact g
 ·obtain ⟨m, rfl, g⟩ := asS_some h; exact g
 ·obtain ⟨m, rfl, g⟩ := asP_some h; exact g
 ·obtain ⟨m, rfl, g⟩ := asSl_some h; exact g
 ·obtain ⟨m, rfl, g⟩ := asM_some h; exact g
 ·obtain ⟨m, rfl, g⟩ := asF_some h; exact g
 ·exact h
theorem Sc.ds_some {l : List Sc} : ∀ {x : List HV} {K : List HV → M α}, Sc.ds l x K H n = some r → app (K x) H n = some r := by
 induction l with
 | nil => intro x K h; simp only [Sc.ds] at h; obtain ⟨rfl, g⟩ := nl_some h; exact g
 | cons s l ih =>
  intro x K h; simp only [Sc.ds] at h
  obtain ⟨v, t, rfl, g⟩ := uc_some h
  exact ih (K := fun vs' => K (v :: vs')) (Sc.d_some g)
theorem Sh1.d_some {s : Sh1} {x : HV} {K : HV → M α} (h : s.d x K H n = some r) : app (K x) H n = some r := by
 cases s <;> simp only [Sh1.d] at h
 ·exact Sc.d_some h
 ·obtain ⟨m, rfl, g⟩ := asA_some h; exact Sc.ds_some g
 ·obtain ⟨m, rfl, g⟩ := asA_some h; exact g
theorem Sh1.ds_some {l : List Sh1} : ∀ {x : List HV} {K : List HV → M α}, Sh1.ds l x K H n = some r → app (K x) H n = some r := by
 induction l with
 | nil => intro x K h; simp only [Sh1.ds] at h; obtain ⟨rfl, g⟩ := nl_some h; exact g
 | cons s l ih =>
  intro x K h; simp only [Sh1.ds] at h
  obtain ⟨v, t, rfl, g⟩ := uc_some h
  exact ih (K := fun vs' => K (v :: vs')) (Sh1.d_some g)
theorem Sh.d_some {s : Sh} {x : HV} {K : HV → M α} (h : s.d x K H n = some r) : app (K x) H n = some r := by
 cases s <;> simp only [Sh.d] at h
 ·exact Sh1.d_some h
 ·obtain ⟨m, rfl, g⟩ := asT_some h; exact Sh1.ds_some g
end
/-! the relation -/
structure Inj where
 j : Nat → Option (Nat × Nat)
 sz : Nat → Option Nat
structure Inj.le (I I' : Inj) : Prop where
 j : ∀ b x, I.j b = some x → I'.j b = some x
 sz : ∀ b x, I.sz b = some x → I'.sz b = some x
theorem Inj.le.refl (I : Inj) : I.le I := ⟨fun _ _ h => h, fun _ _ h => h⟩
theorem Inj.le.trans {I I' I'' : Inj} (h : I.le I') (h' : I'.le I'') : I.le I'' := ⟨fun b x e => h'.j b x (h.j b x e), fun b x e => h'.sz b x (h.sz b x e)⟩
mutual
inductive VR (I : Inj) : HV → Value → Prop
 | int (k : IntKind) (n : Int) : VR I (.int k n) (.int k n)
 | bool (b : Bool) : VR I (.bool b) (.bool b)
 | str (s : ByteArray) : VR I (.str s) (.string s)
 | ptrN : VR I (.ptr none) (.pointer none)
 | ptr {b o b' d : Nat} : I.j b = some (b', d) → VR I (.ptr (some (b, o))) (.pointer (some ⟨b', d + o, none⟩))
 | slN {len cap : Nat} {opn : Option Nat} : VR I (.sl ⟨none, len, cap, opn⟩) (.slice none len cap)
 | sl {b o len cap b' d cap' : Nat} {opn : Option Nat} : I.j b = some (b', d) → cap ≤ cap' → (opn = none → cap' = cap) →
   (∀ es, opn = some es → ∃ s, I.sz b' = some s ∧ d + o + cap' * es ≤ s) → VR I (.sl ⟨some (b, o), len, cap, opn⟩) (.slice (some ⟨b', d + o, none⟩) len cap')
 | slE {b o : Nat} {A : Addr} : VR I (.sl ⟨some (b, o), 0, 0, none⟩) (.slice (some A) 0 0)
 | slO {b o c : Nat} {A : Addr} : VR I (.sl ⟨some (b, o), 0, 0, some 0⟩) (.slice (some A) 0 c)
 | func {f : Nat} {first cap : List HV} {f1 c1 : List Value} : VRs I first f1 → VRs I cap c1 → VR I (.func f first cap) (.func (.func f) f1.toArray c1.toArray)
 | yld {l l' : Nat} : I.j l = some (l', 0) → VR I (.yld l) (.func (.yield l') #[] #[])
 | mpN : VR I (.mp none) (.map none)
 | mp {b b' : Nat} : I.j b = some (b', 0) → VR I (.mp (some b)) (.map (some b'))
 | ifc {t : TypeId} {v : Value} : VR I (.ifc true) (.iface t v)
 | nilFunc : VR I .nilFunc .nilFunc
 | ifcN : VR I (.ifc false) .nilIface
 | agg {cs : List HV} {l : List Value} : VRs I cs l → (∀ v ∈ l, v.oneCell' = true) → VR I (.agg cs) (.agg l.toArray)
 | tup {cs : List HV} {l : List Value} : VRs I cs l → VR I (.tup cs) (.tuple l.toArray)
inductive VRs (I : Inj) : List HV → List Value → Prop
 | nil : VRs I [] []
 | cons {h : HV} {v : Value} {hs : List HV} {vs : List Value} : VR I h v → VRs I hs vs → VRs I (h :: hs) (v :: vs)
end
mutual
theorem VR.mono {I I' : Inj} (hI : I.le I') : ∀ {h v}, VR I h v → VR I' h v
 | _, _, .int k n => .int k n
 | _, _, .bool b => .bool b
 | _, _, .str s => .str s
 | _, _, .ptrN => .ptrN
 | _, _, .ptr h => .ptr (hI.j _ _ h)
 | _, _, .slN => .slN
 | _, _, .sl h h1 h2 h3 => .sl (hI.j _ _ h) h1 h2 fun es e => let ⟨s, a, b⟩ := h3 es e; ⟨s, hI.sz _ _ a, b⟩
 | _, _, .slE => .slE
 | _, _, .slO => .slO
 | _, _, .func a b => .func (VRs.mono hI a) (VRs.mono hI b)
 | _, _, .yld h => .yld (hI.j _ _ h)
 | _, _, .mpN => .mpN
 | _, _, .mp h => .mp (hI.j _ _ h)
 | _, _, .ifc => .ifc
 | _, _, .nilFunc => .nilFunc
 | _, _, .ifcN => .ifcN
 | _, _, .agg a b => .agg (VRs.mono hI a) b
 | _, _, .tup a => .tup (VRs.mono hI a)
theorem VRs.mono {I I' : Inj} (hI : I.le I') : ∀ {h v}, VRs I h v → VRs I' h v
 | _, _, .nil => .nil
 | _, _, .cons a b => .cons (VR.mono hI a) (VRs.mono hI b)
end
theorem VR.sc {I : Inj} {h : HV} {v : Value} (hv : VR I h v) : v.oneCell' = h.sc := by cases hv <;> rfl
theorem VRs.length {I : Inj} {hs : List HV} : ∀ {vs : List Value}, VRs I hs vs → vs.length = hs.length := by
 induction hs with
 | nil => intro vs h; cases h; rfl
 | cons h hs ih => intro vs h'; cases h' with | cons a b => simp [ih b]
theorem VRs.get {I : Inj} {hs : List HV} : ∀ {vs : List Value} {i : Nat} {h : HV}, VRs I hs vs → hs[i]? = some h → ∃ v, vs[i]? = some v ∧ VR I h v := by
 induction hs with
 | nil => intro vs i h _ e; simp at e
 | cons x hs ih =>
  intro vs i h hr e
  cases hr with
  | cons a b => cases i with
   | zero => simp at e; subst e; exact ⟨_, rfl, a⟩
   | succ i => simp at e; simpa using ih b e
theorem VRs.of_get {I : Inj} {hs : List HV} : ∀ {vs : List Value}, vs.length = hs.length → (∀ (i : Nat) (h : HV) (v : Value), hs[i]? = some h → vs[i]? = some v → VR I h v) → VRs I hs vs := by
  induction hs with
  | nil => intro vs hl _; have : vs = [] := by simpa using hl
           subst this; exact .nil
  | cons x hs ih =>
    intro vs hl h
    cases vs with
    | nil => simp at hl
    | cons v vs => exact .cons (h 0 x v rfl rfl) (ih (by simpa using hl) fun i a b e1 e2 => h (i + 1) a b (by simpa using e1) (by simpa using e2))
theorem VRs.append {I : Inj} {h1 h2 : List HV} {v1 v2 : List Value} (a : VRs I h1 v1) (b : VRs I h2 v2) : VRs I (h1 ++ h2) (v1 ++ v2) := by
 induction h1 generalizing v1 with
 | nil => cases a; exact b
 | cons x h1 ih => cases a with | cons p q => exact .cons p (ih q)
def VC (I : Inj) (h : HV) (v : Value) : Prop := VR I h v ∧ h.sc = true
theorem VC.mono {I I' : Inj} (hI : I.le I') {h v} (a : VC I h v) : VC I' h v := ⟨a.1.mono hI, a.2⟩
class Sites where
 ok : Nat → Nat → Nat → Array Tmp → Code → Code → Prop
section
variable [Sites]
def LRel (I : Inj) (k : Nat) (vs : List (Nat × HV)) (st : LoopState) (pd : Option Code) (r : Loop) : Prop :=
 r.state = st ∧ r.pending = pd ∧ Sites.ok k 0 r.tmps.size r.params r.assign r.body ∧ ∀ p ∈ vs, VR I p.2 (r.tmps.getD p.1 undef)
theorem LRel.mono {I I' : Inj} (hI : I.le I') {k : Nat} {vs : List (Nat × HV)} {st : LoopState} {pd : Option Code} {r : Loop} (h : LRel I k vs st pd r) : LRel I' k vs st pd r :=
 ⟨h.1, h.2.1, h.2.2.1, fun p hp => (h.2.2.2 p hp).mono hI⟩
def ERel (I : Inj) (es : List (HV × HV)) (l : List MapEntry) : Prop := VRs I (es.map Prod.fst) (l.map (·.key)) ∧ VRs I (es.map Prod.snd) (l.map (·.val))
theorem ERel.mono {I I' : Inj} (hI : I.le I') {es : List (HV × HV)} {l : List MapEntry} (h : ERel I es l) : ERel I' es l := ⟨h.1.mono hI, h.2.mono hI⟩
def SRel (I : Inj) : Spc → Obj → Prop
 | .loop k vs st pd, .loop r => LRel I k vs st pd r
 | .map es, .map l _ => ERel I es l.toList
 | .iter s pos, .stringIter s' pos' => s' = s ∧ pos' = pos
 | _, _ => False
theorem SRel.mono {I I' : Inj} (hI : I.le I') {s : Spc} {o : Obj} (h : SRel I s o) : SRel I' s o := by
 cases s <;> cases o <;> simp only [SRel] at h ⊢
 ·exact h.mono hI
 ·exact h.mono hI
 ·exact h
theorem SRel.not_cells {I : Inj} {s : Spc} {c : Array Value} {el : TypeId} {fr : Nat × Nat} (h : SRel I s (.cells c el fr)) : False := by
 cases s <;> exact h
theorem SRel.is_loop {I : Inj} {k : Nat} {vs : List (Nat × HV)} {st : LoopState} {pd : Option Code} {o : Obj} (h : SRel I (.loop k vs st pd) o) : ∃ r, o = .loop r ∧ LRel I k vs st pd r := by
 cases o <;> simp only [SRel] at h; exact ⟨_, rfl, h⟩
def Thaw (n : Nat) (el : TypeId) (fr : Nat × Nat) : Prop := (∀ i, i < n → ¬ (fr.1 ≤ i ∧ i < fr.2)) ∧ (el ≠ 5 → fr = (0, 0))
theorem thaw0 (n : Nat) (el : TypeId) : Thaw n el (0, 0) := ⟨fun i _ h => by simp at h, fun _ => rfl⟩
structure Rel (I : Inj) (H : Heap) (w : World) : Prop where
 bnd : ∀ b x, I.j b = some x → b < H.n
 img : ∀ b b' d, I.j b = some (b', d) → b' < w.heap.size
 obj : ∀ b b' d cs ro, I.j b = some (b', d) → H.get b = .cells cs ro → ∃ c el fr, w.heap[b']? = some (.cells c el fr) ∧
  (∀ i h, cs[i]? = some h → ∃ v, c[d + i]? = some v ∧ VC I h v) ∧ (ro = false → d = 0 ∧ Thaw c.size el fr)
 inj : ∀ b1 b2 b' d1 d2 c1 c2 ro, I.j b1 = some (b', d1) → I.j b2 = some (b', d2) → H.get b1 = .cells c1 false → H.get b2 = .cells c2 ro → b1 = b2
 sz : ∀ b' s, I.sz b' = some s → ∃ c el fr, w.heap[b']? = some (.cells c el fr) ∧ c.size = s
 spc : ∀ b b' d s, I.j b = some (b', d) → H.get b = .spc s → d = 0 ∧ ∃ o, w.heap[b']? = some o ∧ SRel I s o
 ty : ∀ b b' d t s, I.j b = some (b', d) → H.ty b = some (t, s) → d = 0 ∧ ∃ c fr, w.heap[b']? = some (.cells c t fr) ∧ ∀ k, s = some k → c.size = k
 sinj : ∀ b1 b2 b' d1 d2 s1 s2, I.j b1 = some (b', d1) → I.j b2 = some (b', d2) → H.get b1 = .spc s1 → H.get b2 = .spc s2 → b1 = b2
end
def CK (w w' : World) : Prop := ∀ (x : Nat) (c : Array Value) (el : TypeId) (fr : Nat × Nat), w.heap[x]? = some (.cells c el fr) → ∃ (c2 : Array Value) (fr2 : Nat × Nat), w'.heap[x]? = some (.cells c2 el fr2) ∧ c2.size = c.size
section
variable [Sites]
theorem Rel.tyK {I : Inj} {H : Heap} {w w' : World} (h : Rel I H w) (hk : CK w w') {b b' d : Nat} {t : Nat} {s : Option Nat} (e1 : I.j b = some (b', d)) (e2 : H.ty b = some (t, s)) : d = 0 ∧ ∃ c fr, w'.heap[b']? = some (.cells c t fr) ∧ ∀ k, s = some k → c.size = k :=
 let ⟨a, _, _, q1, q2⟩ := h.ty b b' d t s e1 e2
 let ⟨c2, fr2, p1, p2⟩ := hk _ _ _ _ q1
 ⟨a, c2, fr2, p1, fun k hk => p2.trans (q2 k hk)⟩
end
structure Step (I : Inj) (H : Heap) (w : World) (I' : Inj) (H' : Heap) (w' : World) : Prop where
 ext : w'.os = w.os ∧ w'.output = w.output
 le : I.le I'
 n : H.n ≤ H'.n
 size : w.heap.size ≤ w'.heap.size
 keep : ∀ b', b' < w.heap.size → (∀ b d cs, I.j b = some (b', d) → H.get b ≠ .cells cs false) → (∀ b d s, I.j b = some (b', d) → H.get b ≠ .spc s) → w'.heap[b']? = w.heap[b']?
 img1 : ∀ b b' d, I'.j b = some (b', d) → w.heap.size ≤ b' ∨ ∃ b0 d0, I.j b0 = some (b', d0)
 img2 : ∀ b b' d cs, I'.j b = some (b', d) → H'.get b = .cells cs false → w.heap.size ≤ b' ∨ ∃ b0 d0 c0, I.j b0 = some (b', d0) ∧ H.get b0 = .cells c0 false
 img3 : ∀ b b' d s, I'.j b = some (b', d) → H'.get b = .spc s → w.heap.size ≤ b' ∨ ∃ b0 d0 s0, I.j b0 = some (b', d0) ∧ H.get b0 = .spc s0
 lp : ∀ (b' : Nat) (r : Loop), w.heap[b']? = some (.loop r) → ∃ r', w'.heap[b']? = some (.loop r')
theorem Step.refl (I : Inj) (H : Heap) (w : World) : Step I H w I H w :=
 ⟨⟨rfl, rfl⟩, .refl I, Nat.le_refl _, Nat.le_refl _, fun _ _ _ _ => rfl, fun b _b' d h => .inr ⟨b, d, h⟩, fun b _b' d cs h e => .inr ⟨b, d, cs, h, e⟩, fun b _b' d s h e => .inr ⟨b, d, s, h, e⟩, fun _ r h => ⟨r, h⟩⟩
theorem Step.trans {I1 I2 I3 : Inj} {H1 H2 H3 : Heap} {w1 w2 w3 : World} (a : Step I1 H1 w1 I2 H2 w2) (b : Step I2 H2 w2 I3 H3 w3) : Step I1 H1 w1 I3 H3 w3 where
 ext := ⟨b.ext.1.trans a.ext.1, b.ext.2.trans a.ext.2⟩
 le := a.le.trans b.le
 n := Nat.le_trans a.n b.n
 size := Nat.le_trans a.size b.size
 keep := by
  intro b' hb hn hl
  rw [b.keep b' (Nat.lt_of_lt_of_le hb a.size) ?_ ?_, a.keep b' hb hn hl]
  ·intro x d cs hx hc
   rcases a.img2 x b' d cs hx hc with h | ⟨b0, d0, c0, h0, h1⟩
   ·omega
   ·exact hn b0 d0 c0 h0 h1
  ·intro x d s hx hc
   rcases a.img3 x b' d s hx hc with h | ⟨b0, d0, s0, h0, h1⟩
   ·omega
   ·exact hl b0 d0 s0 h0 h1
 img1 := by
  intro x b' d hx
  rcases b.img1 x b' d hx with h | ⟨b0, d0, h0⟩
  ·exact .inl (Nat.le_trans a.size h)
  ·exact a.img1 b0 b' d0 h0
 img2 := by
  intro x b' d cs hx hc
  rcases b.img2 x b' d cs hx hc with h | ⟨b0, d0, c0, h0, h1⟩
  ·exact .inl (Nat.le_trans a.size h)
  ·exact a.img2 b0 b' d0 c0 h0 h1
 img3 := by
  intro x b' d s hx hc
  rcases b.img3 x b' d s hx hc with h | ⟨b0, d0, s0, h0, h1⟩
  ·exact .inl (Nat.le_trans a.size h)
  ·exact a.img3 b0 b' d0 s0 h0 h1
 lp := fun b' r h => let ⟨r2, h2⟩ := a.lp b' r h; b.lp b' r2 h2
def SVR (I : Inj) (β : Nat → Option Nat) (B : Bx) : SV → Value → Prop
 | .un, _ => True
 | .v h, v => VR I h v
 | .loc d off, v => B.get d ≠ none ∧ ∃ b, β d = some b ∧ v = .pointer (some ⟨b, off, none⟩)
 | .lsl d n, v => B.get d ≠ none ∧ ∃ b, β d = some b ∧ v = .slice (some ⟨b, 0, none⟩) n n
structure BR (I : Inj) (β : Nat → Option Nat) (w : World) (B : Bx) : Prop where
 box : ∀ d cs, B.get d = some cs → ∃ b c el, β d = some b ∧ w.heap[b]? = some (.cells c el (0, 0)) ∧ VRs I cs c.toList ∧ (∀ v ∈ c.toList, v.oneCell' = true)
 inj : ∀ d1 d2 b, B.get d1 ≠ none → B.get d2 ≠ none → β d1 = some b → β d2 = some b → d1 = d2
 img : ∀ d b, B.get d ≠ none → β d = some b → ∀ x e, I.j x ≠ some (b, e)
def FR (I : Inj) (β : Nat → Option Nat) (B : Bx) (F : Fr) (a : Act) : Prop := ∀ t, SVR I β B (F.get t) (a.tmps.getD t undef)
theorem SVR.mono {I I' : Inj} {β β' : Nat → Option Nat} {B B' : Bx} (hI : I.le I') (hb : ∀ d b, B.get d ≠ none → β d = some b → β' d = some b) (hB : ∀ d, B.get d ≠ none → B'.get d ≠ none) {s v} (h : SVR I β B s v) : SVR I' β' B' s v := by
 cases s with
 | un => trivial
 | v x => exact VR.mono hI h
 | loc d off => obtain ⟨h0, b, h1, h2⟩ := h; exact ⟨hB d h0, b, hb _ _ h0 h1, h2⟩
 | lsl d n => obtain ⟨h0, b, h1, h2⟩ := h; exact ⟨hB d h0, b, hb _ _ h0 h1, h2⟩
theorem BR.step {I I' : Inj} {H H' : Heap} {w w' : World} {β : Nat → Option Nat} {B : Bx} (h : BR I β w B) (hs : Step I H w I' H' w') : BR I' β w' B where
 box := by
  intro d cs e
  obtain ⟨b, c, el, h1, h2, h3, h4⟩ := h.box d cs e
  have hlt : b < w.heap.size := by
   have := (Array.getElem?_eq_some_iff.1 h2).1; exact this
  refine ⟨b, c, el, h1, ?_, h3.mono hs.le, h4⟩
  rw [hs.keep b hlt (fun x e' cs hx _ => h.img d b (by simp [e]) h1 x e' hx) (fun x e' _ hx _ => h.img d b (by simp [e]) h1 x e' hx)]; exact h2
 inj := h.inj
 img := by
  intro d b e hb x e' hx
  rcases hs.img1 x b e' hx with hh | ⟨b0, d0, h0⟩
  ·cases hB : B.get d with
   | none => exact e hB
   | some cs =>
    obtain ⟨b2, c, el, h1, h2, _⟩ := h.box d cs hB
    rw [hb] at h1; cases h1
    have := (Array.getElem?_eq_some_iff.1 h2).1
    omega
  ·exact h.img d b e hb b0 d0 h0
set_option linter.unusedSectionVars false
/-! worlds -/
theorem cell_of {w : World} {b i : Nat} {c : Array Value} {el : TypeId} {fr : Nat × Nat} (h : w.heap[b]? = some (.cells c el fr)) : w.cell? ⟨b, i, none⟩ = c[i]? := by
 simp [World.cell?, h]
theorem frozen_of {w : World} {b i : Nat} {c : Array Value} {el : TypeId} {fr : Nat × Nat} (h : w.heap[b]? = some (.cells c el fr)) (ht : Thaw c.size el fr) (hi : i < c.size) : w.frozen? ⟨b, i, none⟩ = false := by
 have := ht.1 i hi
 simp only [World.frozen?, h, Bool.and_eq_false_iff, decide_eq_false_iff_not]
 by_cases h1 : fr.1 ≤ i
 ·exact .inr fun h2 => this ⟨h1, h2⟩
 ·exact .inl h1
theorem lt_of_heap {w : World} {b : Nat} {o : Obj} (h : w.heap[b]? = some o) : b < w.heap.size := (Array.getElem?_eq_some_iff.1 h).1
theorem heap_alloc_lt (w : World) (o : Obj) {x : Nat} (h : x < w.heap.size) : (w.alloc o).heap[x]? = w.heap[x]? := by
 show (w.heap.push o)[x]? = _
 rw [Array.getElem?_push, if_neg (by omega)]
theorem heap_alloc_eq (w : World) (o : Obj) : (w.alloc o).heap[w.heap.size]? = some o := by
 show (w.heap.push o)[w.heap.size]? = _
 simp
theorem heap_setCell {w : World} {b i : Nat} {c : Array Value} {el : TypeId} {fr : Nat × Nat} (v : Value) (h : w.heap[b]? = some (.cells c el fr)) :
  (w.setCell ⟨b, i, none⟩ v).heap[b]? = some (.cells (c.setIfInBounds i v) el fr) := by
 simp [World.setCell, Array.getElem?_modify, h]
theorem heap_setCell_ne {w : World} {a : Addr} {x : Nat} (v : Value) (h : x ≠ a.block) : (w.setCell a v).heap[x]? = w.heap[x]? := by
 simp [World.setCell, Array.getElem?_modify]
 intro e; exact absurd e.symm h
theorem setCells_ne {b : Nat} : ∀ (vs : List Value) (o : Nat) (w : World) (x : Nat), x ≠ b → (w.setCells b o vs).heap[x]? = w.heap[x]?
 | [], _, _, _, _ => rfl
 | v :: r, o, w, x, h => by rw [World.setCells, setCells_ne r (o + 1) _ x h, heap_setCell_ne v h]
theorem setCells_size {b : Nat} : ∀ (vs : List Value) (o : Nat) (w : World), (w.setCells b o vs).heap.size = w.heap.size
 | [], _, _ => rfl
 | v :: r, o, w => by rw [World.setCells, setCells_size r (o + 1)]; simp
theorem setCells_ext {b : Nat} : ∀ (vs : List Value) (o : Nat) (w : World), (w.setCells b o vs).os = w.os ∧ (w.setCells b o vs).output = w.output
 | [], _, _ => ⟨rfl, rfl⟩
 | v :: r, o, w => by
  obtain ⟨h1, h2⟩ := setCells_ext (b := b) r (o + 1) (w.setCell ⟨b, o, none⟩ v)
  exact ⟨h1, h2⟩
theorem setCells_eq {b : Nat} : ∀ (vs : List Value) (o : Nat) (w : World) (c : Array Value) (el : TypeId) (fr : Nat × Nat), w.heap[b]? = some (.cells c el fr) →
  ∃ c2 : Array Value, (w.setCells b o vs).heap[b]? = some (.cells c2 el fr) ∧ c2.size = c.size ∧ ∀ i, i < c.size → c2[i]? = if o ≤ i ∧ i < o + vs.length then vs[i - o]? else c[i]?
 | [], o, w, c, el, fr, h => ⟨c, h, rfl, fun i _ => by rw [if_neg (by simp only [List.length_nil]; omega)]⟩
 | v :: r, o, w, c, el, fr, h => by
  obtain ⟨c2, h1, h2, h3⟩ := setCells_eq r (o + 1) _ _ el fr (heap_setCell (i := o) v h)
  refine ⟨c2, h1, by simpa using h2, fun i hi => ?_⟩
  rw [h3 i (by simpa using hi)]
  by_cases e : o + 1 ≤ i ∧ i < o + 1 + r.length
  ·rw [if_pos e, if_pos (by simp only [List.length_cons]; omega)]
   rw [show i - o = (i - (o + 1)) + 1 by omega, List.getElem?_cons_succ]
  ·rw [if_neg e]
   by_cases e2 : i = o
   ·subst e2; simp [hi]
   ·rw [if_neg (by simp only [List.length_cons]; omega), Array.getElem?_setIfInBounds, if_neg (Ne.symm e2)]
/-! the abstract heap and new memory -/
def Inj.up (I : Inj) (b b' s : Nat) : Inj := { j := fun x => if x = b then some (b', 0) else I.j x, sz := fun x => if x = b' then some s else I.sz x }
def Inj.mv (I : Inj) (b b' : Nat) : Inj := { j := fun x => if x = b then some (b', 0) else I.j x, sz := I.sz }
section
variable [Sites]
variable {I : Inj} {H : Heap} {w : World}
theorem Rel.j_none (h : Rel I H w) {b : Nat} (hb : H.n ≤ b) : I.j b = none := by
 cases e : I.j b with
 | none => rfl
 | some x => have := h.bnd b x e; omega
theorem Rel.sz_none (h : Rel I H w) {b : Nat} (hb : w.heap.size ≤ b) : I.sz b = none := by
 cases e : I.sz b with
 | none => rfl
 | some x => obtain ⟨c, el, fr, h1, _⟩ := h.sz b x e; have := lt_of_heap h1; omega
theorem Rel.up_le (h : Rel I H w) (s : Nat) : I.le (I.up H.n w.heap.size s) where
 j := by intro b x e; simp only [Inj.up]; rw [if_neg]; exact e; intro hb; rw [hb, h.j_none (Nat.le_refl _)] at e; cases e
 sz := by intro b x e; simp only [Inj.up]; rw [if_neg]; exact e; intro hb; rw [hb, h.sz_none (Nat.le_refl _)] at e; cases e
theorem CK.alloc (w : World) (o : Obj) : CK w (w.alloc o) := fun _ c _ fr h => ⟨c, fr, by rw [heap_alloc_lt w o (lt_of_heap h)]; exact h, rfl⟩
theorem CK.one {w w' : World} {b' : Nat} {c c2 : Array Value} {el : TypeId} {fr fr2 : Nat × Nat} (hc0 : w.heap[b']? = some (.cells c el fr)) (hs : c2.size = c.size) (hw : w'.heap[b']? = some (.cells c2 el fr2)) (hn : ∀ x, x ≠ b' → w'.heap[x]? = w.heap[x]?) : CK w w' := by
 intro x c' el' fr' h
 by_cases hx : x = b'
 ·subst hx; rw [hc0] at h; cases h; exact ⟨c2, fr2, hw, hs⟩
 ·exact ⟨c', fr', by rw [hn x hx]; exact h, rfl⟩
theorem Rel.more (h : Rel I H w) (o : Obj) : Rel I H (w.alloc o) where
 bnd := h.bnd
 img := fun b b' d e => by have := h.img b b' d e; simp; omega
 obj := fun b b' d cs ro e1 e2 => by
  obtain ⟨c, el, fr, h1, h2⟩ := h.obj b b' d cs ro e1 e2
  exact ⟨c, el, fr, by rw [heap_alloc_lt w o (lt_of_heap h1)]; exact h1, h2⟩
 inj := h.inj
 sz := fun b' s e => by obtain ⟨c, el, fr, h1, h2⟩ := h.sz b' s e; exact ⟨c, el, fr, by rw [heap_alloc_lt w o (lt_of_heap h1)]; exact h1, h2⟩
 spc := fun b b' d s e1 e2 => by
  obtain ⟨h0, r, h1, h2⟩ := h.spc b b' d s e1 e2
  exact ⟨h0, r, by rw [heap_alloc_lt w o (lt_of_heap h1)]; exact h1, h2⟩
 ty := fun _ _ _ _ _ e1 e2 => h.tyK (CK.alloc w o) e1 e2
 sinj := h.sinj
theorem Step.more (I : Inj) (H : Heap) (w : World) (o : Obj) : Step I H w I H (w.alloc o) :=
 ⟨⟨rfl, rfl⟩, .refl I, Nat.le_refl _, by simp, fun _ hb _ _ => heap_alloc_lt w o hb, fun b b' d h => .inr ⟨b, d, h⟩, fun b b' d cs h e => .inr ⟨b, d, cs, h, e⟩, fun b _ d s h e => .inr ⟨b, d, s, h, e⟩, fun _ r h => ⟨r, (heap_alloc_lt w o (lt_of_heap h)).trans h⟩⟩
theorem Rel.drew (h : Rel I H w) : Rel I H w.drew := ⟨h.bnd, h.img, h.obj, h.inj, h.sz, h.spc, h.ty, h.sinj⟩
theorem Step.drew (I : Inj) (H : Heap) (w : World) : Step I H w I H w.drew := ⟨⟨rfl, rfl⟩, .refl I, Nat.le_refl _, Nat.le_refl _, fun _ _ _ _ => rfl, fun b _ d h => .inr ⟨b, d, h⟩, fun b _ d cs h e => .inr ⟨b, d, cs, h, e⟩, fun b _ d s h e => .inr ⟨b, d, s, h, e⟩, fun _ r h => ⟨r, h⟩⟩
theorem Rel.newT (h : Rel I H w) (t : Option (Nat × Option Nat)) {cs : List HV} {c : Array Value} (el : TypeId) (ht : ∀ e s, t = some (e, s) → el = e ∧ ∀ k, s = some k → c.size = k) (hc : ∀ (i : Nat) (x : HV), cs[i]? = some x → ∃ v, c[i]? = some v ∧ VC I x v) :
  Rel (I.up H.n w.heap.size c.size) (H.pushT t (.cells cs false)) (w.alloc (.cells c el)) where
 bnd := by
  intro b x e; simp only [Inj.up] at e; simp only [Heap.pushT]
  split at e
  ·omega
  ·have := h.bnd b x e; omega
 img := by
  intro b b' d e; simp only [Inj.up] at e; simp
  split at e
  ·cases e; omega
  ·have := h.img b b' d e; omega
 obj := by
  intro b b' d cs' ro e1 e2
  simp only [Inj.up] at e1; simp only [Heap.pushT] at e2
  split at e1
  ·rename_i hb
   rw [if_pos hb] at e2; cases e1; cases e2
   refine ⟨c, el, (0, 0), heap_alloc_eq _ _, fun i x hx => ?_, fun _ => ⟨rfl, thaw0 _ _⟩⟩
   obtain ⟨v, h1, h2⟩ := hc i x hx
   exact ⟨v, by simpa using h1, h2.mono (h.up_le _)⟩
  ·rename_i hb
   rw [if_neg hb] at e2
   obtain ⟨c', el', fr, h1, h2, h3⟩ := h.obj b b' d cs' ro e1 e2
   refine ⟨c', el', fr, by rw [heap_alloc_lt w _ (lt_of_heap h1)]; exact h1, fun i x hx => ?_, h3⟩
   obtain ⟨v, g1, g2⟩ := h2 i x hx
   exact ⟨v, g1, g2.mono (h.up_le _)⟩
 inj := by
  intro b1 b2 b' d1 d2 c1 c2 ro e1 e2 e3 e4
  simp only [Inj.up] at e1 e2; simp only [Heap.pushT] at e3 e4
  split at e1 <;> split at e2
  ·omega
  ·cases e1; have := h.img b2 _ d2 e2; omega
  ·cases e2; have := h.img b1 _ d1 e1; omega
  ·rename_i n1 n2
   rw [if_neg n1] at e3; rw [if_neg n2] at e4
   exact h.inj b1 b2 b' d1 d2 c1 c2 ro e1 e2 e3 e4
 sz := by
  intro b' s e; simp only [Inj.up] at e
  split at e
  ·rename_i hb; subst hb; cases e; exact ⟨c, el, (0, 0), heap_alloc_eq _ _, rfl⟩
  ·obtain ⟨c', el', fr, h1, h2⟩ := h.sz b' s e
   exact ⟨c', el', fr, by rw [heap_alloc_lt w _ (lt_of_heap h1)]; exact h1, h2⟩
 spc := by
  intro b b' d s e1 e2
  simp only [Inj.up] at e1; simp only [Heap.pushT] at e2
  split at e1
  ·rename_i hb; rw [if_pos hb] at e2; cases e2
  ·rename_i hb; rw [if_neg hb] at e2
   obtain ⟨h0, r, h1, h2⟩ := h.spc b b' d s e1 e2
   exact ⟨h0, r, by rw [heap_alloc_lt w _ (lt_of_heap h1)]; exact h1, h2.mono (h.up_le _)⟩
 ty := by
  intro b b' d t2 s e1 e2; simp only [Inj.up] at e1; simp only [Heap.pushT] at e2
  split at e1
  ·rename_i hb; rw [if_pos hb] at e2; cases e1
   obtain ⟨q1, q2⟩ := ht _ _ e2
   subst q1
   exact ⟨rfl, c, (0, 0), heap_alloc_eq _ _, q2⟩
  ·rename_i hb; rw [if_neg hb] at e2; exact h.tyK (CK.alloc w _) e1 e2
 sinj := by
  intro b1 b2 b' d1 d2 s1 s2 e1 e2 e3 e4
  simp only [Inj.up] at e1 e2; simp only [Heap.pushT] at e3 e4
  split at e1 <;> split at e2
  ·omega
  ·rename_i n1 n2; rw [if_pos n1] at e3; cases e3
  ·rename_i n1 n2; rw [if_pos n2] at e4; cases e4
  ·rename_i n1 n2
   rw [if_neg n1] at e3; rw [if_neg n2] at e4
   exact h.sinj b1 b2 b' d1 d2 s1 s2 e1 e2 e3 e4
theorem Rel.new (h : Rel I H w) {cs : List HV} {c : Array Value} (el : TypeId) (hc : ∀ (i : Nat) (x : HV), cs[i]? = some x → ∃ v, c[i]? = some v ∧ VC I x v) :
  Rel (I.up H.n w.heap.size c.size) (H.push (.cells cs false)) (w.alloc (.cells c el)) := h.newT none el (fun _ _ e => by cases e) hc
theorem Step.newT (h : Rel I H w) (t : Option (Nat × Option Nat)) (cs : List HV) (c : Array Value) (el : TypeId) :
  Step I H w (I.up H.n w.heap.size c.size) (H.pushT t (.cells cs false)) (w.alloc (.cells c el)) where
 ext := ⟨rfl, rfl⟩
 le := h.up_le _
 n := by simp [Heap.pushT]
 size := by simp
 keep := fun _ hb _ _ => heap_alloc_lt w _ hb
 img1 := by
  intro b b' d e; simp only [Inj.up] at e
  split at e
  ·cases e; exact .inl (Nat.le_refl _)
  ·exact .inr ⟨b, d, e⟩
 img2 := by
  intro b b' d cs' e e2; simp only [Inj.up] at e; simp only [Heap.pushT] at e2
  split at e
  ·cases e; exact .inl (Nat.le_refl _)
  ·rename_i hb; rw [if_neg hb] at e2; exact .inr ⟨b, d, cs', e, e2⟩
 img3 := by
  intro b b' d s e e2; simp only [Inj.up] at e; simp only [Heap.pushT] at e2
  split at e
  ·cases e; exact .inl (Nat.le_refl _)
  ·rename_i hb; rw [if_neg hb] at e2; exact .inr ⟨b, d, s, e, e2⟩
 lp := fun _ r h => ⟨r, (heap_alloc_lt w _ (lt_of_heap h)).trans h⟩
theorem Step.new (h : Rel I H w) (cs : List HV) (c : Array Value) (el : TypeId) :
  Step I H w (I.up H.n w.heap.size c.size) (H.push (.cells cs false)) (w.alloc (.cells c el)) := Step.newT h none cs c el
theorem Rel.put (h : Rel I H w) {w' : World} {b b' : Nat} {cs cs2 : List HV} {c2 : Array Value} {el : TypeId} (hj : I.j b = some (b', 0)) (hg : H.get b = .cells cs false)
  {c : Array Value} {fr : Nat × Nat} (hc0 : w.heap[b']? = some (.cells c el fr)) (hs : c2.size = c.size) (hw : w'.heap[b']? = some (.cells c2 el fr)) (hn : ∀ x, x ≠ b' → w'.heap[x]? = w.heap[x]?) (hsz : w'.heap.size = w.heap.size)
  (hc : ∀ (i : Nat) (x : HV), cs2[i]? = some x → ∃ v, c2[i]? = some v ∧ VC I x v) : Rel I (H.set b (.cells cs2 false)) w' where
 bnd := h.bnd
 img := fun x b'' d e => by rw [hsz]; exact h.img x b'' d e
 obj := by
  intro x b'' d cs' ro e1 e2
  simp only [Heap.set] at e2
  split at e2
  ·rename_i hx; subst hx; cases e2
   rw [hj] at e1; cases e1
   obtain ⟨c', el', fr', h1, _, h3⟩ := h.obj _ b' 0 cs false hj hg
   rw [hc0] at h1; cases h1
   exact ⟨c2, el, fr, hw, fun i y hy => by simpa using hc i y hy, fun _ => ⟨rfl, by rw [hs]; exact (h3 rfl).2⟩⟩
  ·rename_i hx
   obtain ⟨c', el', fr, h1, h2, h3⟩ := h.obj x b'' d cs' ro e1 e2
   by_cases hb : b'' = b'
   ·subst hb; exact absurd (h.inj b x _ 0 d cs cs' ro hj e1 hg e2).symm hx
   ·exact ⟨c', el', fr, by rw [hn _ hb]; exact h1, h2, h3⟩
 inj := by
  intro b1 b2 b'' d1 d2 c1 c2' ro e1 e2 e3 e4
  simp only [Heap.set] at e3 e4
  split at e3 <;> split at e4
  ·omega
  ·rename_i x1 x2; subst x1; exact h.inj b1 b2 b'' d1 d2 cs c2' ro e1 e2 hg e4
  ·rename_i x1 x2; subst x2; exact h.inj b1 b2 b'' d1 d2 c1 cs false e1 e2 e3 hg
  ·exact h.inj b1 b2 b'' d1 d2 c1 c2' ro e1 e2 e3 e4
 sz := by
  intro x s e
  obtain ⟨c', el', fr, h1, h2⟩ := h.sz x s e
  by_cases hb : x = b'
  ·subst hb; rw [hc0] at h1; cases h1; exact ⟨c2, el, _, hw, by rw [hs]; exact h2⟩
  ·exact ⟨c', el', fr, by rw [hn _ hb]; exact h1, h2⟩
 spc := by
  intro x b'' d s e1 e2
  simp only [Heap.set] at e2
  split at e2
  ·cases e2
  ·obtain ⟨h0, r, h1, h2⟩ := h.spc x b'' d s e1 e2
   have hb : b'' ≠ b' := fun hh => by subst hh; rw [hc0] at h1; cases h1; exact h2.not_cells
   exact ⟨h0, r, by rw [hn _ hb]; exact h1, h2⟩
 ty := fun _ _ _ _ _ e1 e2 => h.tyK (CK.one hc0 hs hw hn) e1 e2
 sinj := by
  intro b1 b2 b'' d1 d2 s1 s2 e1 e2 e3 e4
  simp only [Heap.set] at e3 e4
  split at e3
  ·cases e3
  split at e4
  ·cases e4
  ·exact h.sinj b1 b2 b'' d1 d2 s1 s2 e1 e2 e3 e4
theorem Step.put {w' : World} {b b' : Nat} {cs : List HV} (cs2 : List HV) {c0 : Array Value} {el0 : TypeId} {fr0 : Nat × Nat} (hc0 : w.heap[b']? = some (.cells c0 el0 fr0)) (hj : I.j b = some (b', 0)) (hg : H.get b = .cells cs false)
  (hn : ∀ x, x ≠ b' → w'.heap[x]? = w.heap[x]?) (hsz : w'.heap.size = w.heap.size) (hx : w'.os = w.os ∧ w'.output = w.output) : Step I H w I (H.set b (.cells cs2 false)) w' where
 ext := hx
 le := .refl I
 n := Nat.le_refl _
 size := by omega
 keep := by
  intro x _ hx' _
  by_cases hb : x = b'
  ·subst hb; exact absurd hg (hx' b 0 cs hj)
  ·exact hn x hb
 img1 := fun x _ d e => .inr ⟨x, d, e⟩
 img2 := by
  intro x b'' d cs' e1 e2; simp only [Heap.set] at e2
  split at e2
  ·rename_i hx; subst hx; exact .inr ⟨x, d, cs, e1, hg⟩
  ·exact .inr ⟨x, d, cs', e1, e2⟩
 img3 := by
  intro x b'' d s e1 e2; simp only [Heap.set] at e2
  split at e2
  ·cases e2
  ·exact .inr ⟨x, d, s, e1, e2⟩
 lp := fun x r h => ⟨r, by rw [hn x (fun hh => by rw [hh, hc0] at h; cases h)]; exact h⟩
end
set_option linter.unusedSectionVars false
variable [Sites]
theorem beq_ne {x y : Nat} (h : x ≠ y) : Nat.beq x y = false := by
 cases e : Nat.beq x y with
 | false => rfl
 | true => exact absurd (Nat.eq_of_beq_eq_true e) h
theorem Fr.get_set (t : Nat) (s : SV) (F : Fr) (x : Nat) : (Fr.set t s F).get x = if x = t then s else F.get x := by
 simp only [Fr.get]
 by_cases h : x = t
 ·subst h; simp
 ·have : Nat.beq x t = false := beq_ne h
  rw [this, if_neg h]
theorem Bx.get_set (t : Nat) (s : List HV) (F : Bx) (x : Nat) : (Bx.set t s F).get x = if x = t then some s else F.get x := by
 simp only [Bx.get]
 by_cases h : x = t
 ·subst h; simp
 ·have : Nat.beq x t = false := beq_ne h
  rw [this, if_neg h]
theorem mem_iff (x : Nat) (l : List Nat) : mem x l = true ↔ x ∈ l := by
 induction l with
 | nil => simp [mem]
 | cons y l ih =>
  simp only [mem, List.mem_cons]
  by_cases h : x = y
  ·subst h; simp
  ·have : Nat.beq x y = false := beq_ne h
   rw [this]; simp [h, ih]
theorem under_dom {lv : Nat} : ∀ (B : Bx) (d : Nat), (Bx.under lv B).get d ≠ none → B.get d ≠ none
 | .nil, d, h => h
 | .bar l B, d, h => by
  simp only [Bx.under] at h
  split at h
  ·exact h
  ·exact under_dom B d h
 | .set d0 cs B, d, h => by
  rw [Bx.get_set]; split
  ·simp
  ·exact under_dom B d h
structure Bar where
 lv : Nat
 B : Bx
 β : Nat → Option Nat
 T : List Nat
 a : Act
 I : Inj
structure Cx where
 nt : Nat
 bars : List Bar
def Marks (I : Inj) (w0 w : World) (ds : List Deferred) : Prop := ∃ Ds : List Nat, ds = Ds.map (fun D => { target := .collected D, args := #[] }) ∧ Ds.Nodup ∧
 ∀ D ∈ Ds, w.heap[D]? = some (.deferred (some [])) ∧ w0.heap.size ≤ D ∧ ∀ x e, I.j x ≠ some (D, e)
theorem Marks.nil {I : Inj} {w0 w : World} : Marks I w0 w [] := ⟨[], rfl, List.nodup_nil, fun D h => by cases h⟩
theorem Marks.of {I I' : Inj} {w0 w w' : World} {ds : List Deferred} (h : Marks I w0 w ds) (h1 : ∀ D : Nat, w.heap[D]? = some (.deferred (some [])) → (∀ x e, I.j x ≠ some (D, e)) → w'.heap[D]? = w.heap[D]? ∧ ∀ x e, I'.j x ≠ some (D, e)) : Marks I' w0 w' ds := by
 obtain ⟨Ds, a, b, c⟩ := h
 refine ⟨Ds, a, b, fun D hD => ?_⟩
 obtain ⟨c1, c2, c3⟩ := c D hD
 obtain ⟨q1, q2⟩ := h1 D c1 c3
 exact ⟨by rw [q1]; exact c1, c2, q2⟩
theorem Marks.step {I I' : Inj} {H H' : Heap} {w0 w w' : World} {ds : List Deferred} (h : Marks I w0 w ds) (hs : Step I H w I' H' w') : Marks I' w0 w' ds := by
 refine h.of fun D h1 h2 => ?_
 have hlt := lt_of_heap h1
 refine ⟨hs.keep D hlt (fun x d cs hx _ => h2 x d hx) (fun x d _ hx _ => h2 x d hx), fun x e hx => ?_⟩
 rcases hs.img1 x D e hx with h3 | ⟨b0, d0, h3⟩
 ·omega
 ·exact h2 b0 d0 h3
structure Inv (E : Env) (P : Program) (I0 : Inj) (H0 : Heap) (w0 : World) (nt : Cx) (β : Nat → Option Nat) (I : Inj) (H : Heap) (w : World) (S : St) (a : Act) : Prop where
 step : Step I0 H0 w0 I H w
 rel : Rel I H w
 fr : FR I β S.B S.F a
 br : BR I β w S.B
 fresh : ∀ d b, S.B.get d ≠ none → β d = some b → w0.heap.size ≤ b
 gl : ∀ g hb, E.gl g = some hb → I.j hb = some (g, 0)
 sz : a.tmps.size = nt.nt
 anc : ∀ b ∈ nt.bars, (∀ t, t ∉ b.T → a.tmps.getD t undef = b.a.tmps.getD t undef) ∧ Bx.under b.lv S.B = b.B ∧ (∀ d, b.B.get d ≠ none → β d = b.β d) ∧ b.I.le I
 defers : Marks I w0 w a.defers
section
variable {E : Env} {P : Program} {I0 : Inj} {H0 : Heap} {w0 : World} {nt : Cx} {β : Nat → Option Nat} {I : Inj} {H : Heap} {w : World} {S : St} {a : Act}
theorem ofS_VR {I : Inj} {v : Value} {h : HV} (e : ofS v = some h) : VC I h v := by
 unfold ofS at e
 split at e <;> first | cases e; done | (cases e; exact ⟨by constructor, rfl⟩) | cases e
theorem ofSs_VR {I : Inj} : ∀ {l : List Value} {hs : List HV}, ofSs l = some hs → VRs I hs l ∧ (∀ v ∈ l, v.oneCell' = true)
 | [], hs, e => by simp [ofSs] at e; subst e; exact ⟨.nil, by simp⟩
 | v :: l, hs, e => by
  simp only [ofSs] at e
  split at e
  ·rename_i a b ea eb
   cases e
   obtain ⟨h1, h2⟩ := ofSs_VR (I := I) eb
   have h3 := ofS_VR (I := I) ea
   exact ⟨.cons h3.1 h1, by
    intro x hx; simp only [List.mem_cons] at hx
    rcases hx with rfl | hx
    ·rw [h3.1.sc, h3.2]
    ·exact h2 x hx⟩
  ·cases e
theorem ofV_VR {I : Inj} {v : Value} {h : HV} (e : ofV v = some h) : VR I h v ∧ ∀ l, h ≠ .tup l := by
 unfold ofV at e
 split at e
 ·rename_i cs
  split at e
  ·rename_i l el
   cases e
   obtain ⟨h1, h2⟩ := ofSs_VR (I := I) el
   have := VR.agg h1 h2
   simp only [Array.toArray_toList] at this
   exact ⟨this, by simp⟩
  ·cases e
 ·have := ofS_VR (I := I) e
  refine ⟨this.1, fun l hl => ?_⟩
  subst hl; cases this.2
theorem Inv.ev (hI : Inv E P I0 H0 w0 nt β I H w S a) (x : Operand) : SVR I β S.B (S.ev E x) (a.eval x) := by
 cases x with
 | tmp t => simpa [St.ev, Act.eval] using hI.fr t
 | const v =>
  simp only [St.ev, Act.eval]
  cases e : ofV v with
  | none => trivial
  | some h => exact (ofV_VR e).1
 | global g =>
  simp only [St.ev, Act.eval]
  cases e : E.gl g with
  | none => trivial
  | some b => exact VR.ptr (o := 0) (hI.gl g b e)
 | func f => exact VR.func .nil .nil
theorem Inv.evv (hI : Inv E P I0 H0 w0 nt β I H w S a) {x : Operand} {h : HV} (e : S.ev E x = .v h) : VR I h (a.eval x) := by
 have := hI.ev x; rw [e] at this; exact this
theorem Inv.evs (hI : Inv E P I0 H0 w0 nt β I H w S a) : ∀ {l : List Operand} {hs : List HV}, S.evs E l = some hs → VRs I hs (l.map a.eval)
 | [], hs, e => by simp [St.evs] at e; subst e; exact .nil
 | x :: l, hs, e => by
  simp only [St.evs] at e
  split at e
  ·rename_i h1 l1 e1 e2
   cases e
   exact .cons (hI.evv e1) (hI.evs e2)
  ·cases e
theorem Inv.put (hI : Inv E P I0 H0 w0 nt β I H w S a) {d : Option Nat} {s : SV} {v : Value} (hs : SVR I β S.B s v) (hd : ∀ t, d = some t → t < nt.nt ∧ ∀ b ∈ nt.bars, t ∈ b.T) :
  Inv E P I0 H0 w0 nt β I H w (S.put d s) (a.put d v) := by
 cases d with
 | none => exact hI
 | some t =>
  refine ⟨hI.step, hI.rel, ?_, hI.br, hI.fresh, hI.gl, ?_, ?_, hI.defers⟩
  ·intro x
   simp only [St.put, Fr.get_set, Act.put]
   by_cases h : x = t
   ·subst h
    rw [if_pos rfl]
    have : x < a.tmps.size := by rw [hI.sz]; exact (hd x rfl).1
    simpa [Array.getD_eq_getD_getElem?, this] using hs
   ·rw [if_neg h]
    have := hI.fr x
    simpa [Array.getD_eq_getD_getElem?, Array.getElem?_setIfInBounds_ne (Ne.symm h)] using this
  ·simpa [Act.put] using hI.sz
  ·intro b hb
   obtain ⟨h1, h2, h3⟩ := hI.anc b hb
   refine ⟨fun x hx => ?_, h2, h3⟩
   have hne : t ≠ x := fun hh => hx (hh ▸ (hd t rfl).2 b hb)
   rw [← h1 x hx]
   simp [Act.put, Array.getD_eq_getD_getElem?, Array.getElem?_setIfInBounds_ne hne]
def Kont (E : Env) (P : Program) (I0 : Inj) (H0 : Heap) (w0 : World) (nt : Cx) (K : SV → St → M Leaf) (n : Nat) (r : Leaf × Heap) (a : Act) (dst : Option Nat) (next : Act → World → Prop) : Prop :=
 ∀ sv S' H' I' β' w' v, K sv S' H' n = some r → Inv E P I0 H0 w0 nt β' I' H' w' S' a → SVR I' β' S'.B sv v → next (a.put dst v) w'
variable {K : SV → St → M Leaf} {n : Nat} {r : Leaf × Heap} {next : Act → World → Prop} {Q : Exit → Act → World → Prop} {o : Oper}
def FW (ro : Option Nat) : Fence := { fn := fun _ => True, depth := none, alive := false, round := ro }
theorem callsIn_FW {ro : Option Nat} {n : Nat} {P : Program} {f : FuncId} {args : Array Value} {w : World} {R : Ending → World → Prop} : CallsIn (FW ro) n P f args w R ↔ Calls P f args w R := by
 have : CallsIn (FW ro) n P f args w R ↔ CallsIn Fence.wide n P f args w R := ⟨fun h => h, fun h => h⟩
 rw [this]; exact callsIn_wide
variable {ro : Option Nat}
theorem not_defer {o : Oper} {ρ : Operand → Value} {x : Next} {w w' : World} (h : (execOp ρ o).run P w = .ok x w') (hx : ∀ d, x ≠ .defer d) : ∀ c, o.op ≠ .defer c := by
 intro c hc
 simp only [execOp, hc, Sem.run_bind] at h
 cases hr : (resolve ρ c o.type).run P w with
 | ok d w1 =>
  rw [hr] at h
  simp [Result.andThen] at h
  exact hx d h.1.symm
 | halt y w1 => rw [hr] at h; simp [Result.andThen] at h
theorem wp_value {v : Value} {w' : World} (h : (execOp a.eval o).run P w = .ok (.value v) w') (hn : next (a.put o.dst v) w') : o.wpIn (FW ro) 0 P a w next Q := by
 refine ⟨fun _ _ => trivial, ?_⟩
 rw [Oper.semAt_eq _ _ _ (not_defer h fun d hd => by cases hd), h]; exact hn
theorem wp_skip' {w' : World} (h : (execOp a.eval o).run P w = .ok .skip w') (hn : next (a.put o.dst undef) w') : o.wpIn (FW ro) 0 P a w next Q := by
 refine ⟨fun _ _ => trivial, ?_⟩
 rw [Oper.semAt_eq _ _ _ (not_defer h fun d hd => by cases hd), h]; exact hn
theorem agOf_some {t : TypeId} {b : Bool} (h : agOf P t = some b) : ∃ d i, P.underlying t = some d ∧ P.info? t = some i ∧ (∀ w, (isAgg t).run P w = .ok b w) := by
 unfold agOf at h
 have hi : ∀ d, P.underlying t = some d → ∃ i, P.info? t = some i := by
  intro d hd
  unfold Program.underlying at hd
  cases e : P.info? t with
  | none => rw [e] at hd; cases hd
  | some i => exact ⟨i, rfl⟩
 split at h
 ·rename_i fs e; cases h
  obtain ⟨i, h2⟩ := hi _ e
  exact ⟨_, i, e, h2, fun w => by simp [isAgg, run_underlying e]⟩
 ·rename_i m el e; cases h
  obtain ⟨i, h2⟩ := hi _ e
  exact ⟨_, i, e, h2, fun w => by simp [isAgg, run_underlying e]⟩
 ·rename_i d h1 h2 e; cases h
  obtain ⟨i, h3⟩ := hi _ e
  refine ⟨_, i, e, h3, fun w => ?_⟩
  simp only [isAgg, Sem.run_bind, run_underlying e, Result.andThen_ok]
  cases d <;> first | rfl | (exfalso; exact h1 _ e) | (exfalso; exact h2 _ _ e)
 ·cases h
theorem sizeT_eq {t : TypeId} {i : TypeInfo} (h : P.info? t = some i) : sizeT P t = i.size := by simp [sizeT, Program.cellsOf, h]
theorem run_sizeT {t : TypeId} {i : TypeInfo} (h : P.info? t = some i) (w : World) : (sizeOf t).run P w = .ok (sizeT P t) w := run_sizeOf w h
theorem add_none (b o j : Nat) : (⟨b, o, none⟩ : Addr).add j = ⟨b, o + j, none⟩ := by
 unfold Addr.add; split <;> simp_all
theorem run_loadVar_sc {t : TypeId} {A : Addr} {v : Value} (h : agOf P t = some false) (hc : w.cell? A = some v) : (loadVar t A).run P w = .ok v w := by
 obtain ⟨d, i, h1, h2, h3⟩ := agOf_some h
 simp [loadVar, h3, hc]
theorem run_loadVar_ag {t : TypeId} {A : Addr} {l : List Value} (h : agOf P t = some true) (hl : l.length = sizeT P t) (hc : ∀ j v, l[j]? = some v → w.cell? (A.add j) = some v) :
  (loadVar t A).run P w = .ok (.agg l.toArray) w := by
 obtain ⟨d, i, h1, h2, h3⟩ := agOf_some h
 have := run_loadCells_list (P := P) w A l hc
 rw [hl] at this
 simp [loadVar, h3, run_sizeT h2, this]
theorem run_storeVar_cells {t : TypeId} {b off : Nat} {v : Value} {i : TypeInfo} (hi : P.info? t = some i) (hl : v.cells.size = sizeT P t)
  {c : Array Value} {el : TypeId} {fr : Nat × Nat} (hw : w.heap[b]? = some (.cells c el fr)) (hfr : Thaw c.size el fr) (ho : off + v.cells.size ≤ c.size) (h1 : ∀ x ∈ v.cells.toList, x.oneCell' = true) :
  (storeVar t ⟨b, off, none⟩ v).run P w = .ok () (w.setCells b off v.cells.toList) := by
 have hst := run_storeCells_cells (P := P) b off v.cells.toList 0 w (by
   intro j hj; rw [cell_of hw]; simp only [Array.length_toList] at hj; rw [Array.getElem?_eq_getElem (by omega)]; rfl)
  (by intro j hj; simp only [Array.length_toList] at hj; exact frozen_of hw hfr (by omega)) h1
 simp only [Nat.add_zero] at hst
 simp [storeVar, run_sizeT hi, hl, hst]
theorem cells_slice {I : Inj} {cs : List HV} {c : Array Value} {d o cnt : Nat} (hc : ∀ (i : Nat) (h : HV), cs[i]? = some h → ∃ v, c[d + i]? = some v ∧ VC I h v) (hl : o + cnt ≤ cs.length) :
  ∃ l : List Value, l.length = cnt ∧ VRs I ((cs.drop o).take cnt) l ∧ (∀ v ∈ l, v.oneCell' = true) ∧ ∀ j v, l[j]? = some v → c[d + o + j]? = some v := by
 refine ⟨(List.range cnt).map fun j => c.getD (d + o + j) undef, by simp, ?_, ?_, ?_⟩
 ·refine VRs.of_get (by simp; omega) fun i h v e1 e2 => ?_
  have hi : i < cnt := by
   have := (List.getElem?_eq_some_iff.1 e2).1; simpa using this
  simp [hi] at e2
  rw [List.getElem?_take, if_pos hi, List.getElem?_drop] at e1
  obtain ⟨u, h1, h2⟩ := hc _ _ e1
  rw [show d + (o + i) = d + o + i by omega] at h1
  have : c.getD (d + o + i) undef = u := by simp [Array.getD_eq_getD_getElem?, h1]
  rw [← e2, Array.getD_eq_getD_getElem?] at *
  simp [h1] at *
  exact h2.1
 ·intro v hv
  simp only [List.mem_map, List.mem_range] at hv
  obtain ⟨j, hj, rfl⟩ := hv
  obtain ⟨x, hx⟩ : ∃ x, cs[o + j]? = some x := ⟨cs[o + j]'(by omega), List.getElem?_eq_getElem _⟩
  obtain ⟨u, h1, h2⟩ := hc _ _ hx
  rw [show d + (o + j) = d + o + j by omega] at h1
  simp only [Array.getD_eq_getD_getElem?, h1, Option.getD_some]
  rw [h2.1.sc, h2.2]
 ·intro j v e
  have hj : j < cnt := by
   have := (List.getElem?_eq_some_iff.1 e).1; simpa using this
  simp [hj] at e
  obtain ⟨x, hx⟩ : ∃ x, cs[o + j]? = some x := ⟨cs[o + j]'(by omega), List.getElem?_eq_getElem _⟩
  obtain ⟨u, h1, h2⟩ := hc _ _ hx
  rw [show d + (o + j) = d + o + j by omega] at h1
  simp [h1] at e
  rw [h1, e]
end
end Go.Proofs.YtbphjihgbenkdaaGreat.HQ
