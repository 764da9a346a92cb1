/- Lemmas for the row. Conditions: none. -/
import Derived.Test.YtbphjihgbenkdaaGreatHQ5i
import Derived.Test.YtbphjihgbenkdaaGreatHQSr
import Derived.Below
import Derived.Lib.SmallJoins
import Derived.Lib.AppendIntMem
namespace Go.Proofs.YtbphjihgbenkdaaGreat.HQ
set_option linter.unusedVariables false
set_option linter.unusedSectionVars false
set_option linter.unusedSimpArgs false
open Go Go.Proofs Go.RowKit
set_option linter.unusedSectionVars false
variable [Sites]
section
variable {I : Inj} {H : Heap} {w w' : World}
theorem Rel.below (h : Rel I H w) (hb : Below w.heap.size w w') : Rel I H w' := by
 have hk : ∀ {x : Nat} {o : Obj}, w.heap[x]? = some o → w'.heap[x]? = some o := fun {x o} hx => by rw [hb.block x (lt_of_heap hx)]; exact hx
 exact ⟨h.bnd, fun b b' d e => Nat.lt_of_lt_of_le (h.img b b' d e) hb.size, fun b b' d cs ro e1 e2 => let ⟨c, el, fr, q1, q2⟩ := h.obj b b' d cs ro e1 e2; ⟨c, el, fr, hk q1, q2⟩, h.inj,
  fun b' s e => let ⟨c, el, fr, q1, q2⟩ := h.sz b' s e; ⟨c, el, fr, hk q1, q2⟩, fun b b' d s e1 e2 => let ⟨a, o, q1, q2⟩ := h.spc b b' d s e1 e2; ⟨a, o, hk q1, q2⟩,
  fun b b' d t s e1 e2 => let ⟨a, c, fr, q1, q2⟩ := h.ty b b' d t s e1 e2; ⟨a, c, fr, hk q1, q2⟩, h.sinj⟩
theorem Step.below (I : Inj) (H : Heap) (hb : Below w.heap.size w w') : Step I H w I H w' :=
 ⟨⟨hb.os, hb.output⟩, .refl I, Nat.le_refl _, hb.size, fun x hx _ _ => hb.block x hx, fun b _ d h => .inr ⟨b, d, h⟩, fun b _ d cs h e => .inr ⟨b, d, cs, h, e⟩, fun b _ d s h e => .inr ⟨b, d, s, h, e⟩, fun x r h => ⟨r, by rw [hb.block x (lt_of_heap h)]; exact h⟩⟩
end
section
variable {I : Inj} {H : Heap} {w : World} {gl : Nat → Option Nat}
end
theorem args2 {I : Inj} {x y : HV} {l : List Value} (h : VRs I [x, y] l) : ∃ u v, l = [u, v] ∧ VR I x u ∧ VR I y v := by
 cases h with | cons a b => cases b with | cons c d => cases d; exact ⟨_, _, rfl, a, c⟩
section
variable {P : Program} {gl : Nat → Option Nat} {f : Nat} {D : HV → List HV → M HV}
def Bodied (P : Program) (f : Nat) : Prop := ∃ fn c, P.funcs[f]? = some fn ∧ fn.body = some c ∧ (fn.name == "runtime.NumGoroutine") = false
theorem bodied {fn : Func} (hf : P.funcs[f]? = some fn) (hs : fn.body.isSome = true) (hn : (fn.name == "runtime.NumGoroutine") = false) : Bodied P f := by
 cases hb : fn.body with
 | none => rw [hb] at hs; cases hs
 | some c => exact ⟨fn, c, hf, hb, hn⟩
theorem ok_Repeat (hb : Bodied P f)
  (hc : ∀ (s : ByteArray) (c : Nat) (w : World), c ≤ 9223372036854775807 → s.size * c ≤ 140737488355328 → Calls P f #[.string s, .int .i64 c] w fun e w' => e = .returned (.string ⟨(Lib.repeatL s.data.toList c).toArray⟩) ∧ Below w.heap.size w w') :
  FnOk P gl f (f_strings_Repeat D) := by
 refine ⟨hb, fun args H n r H' h I w args' hR hgl ha => ?_⟩
 obtain ⟨v, l, rfl, h⟩ := uc_some h
 obtain ⟨s, rfl, h⟩ := asS_some h
 obtain ⟨v, l, rfl, h⟩ := uc_some h
 obtain ⟨c, rfl, h⟩ := asI_some h
 obtain ⟨rfl, h⟩ := nl_some h
 obtain ⟨g, h⟩ := gd_some h
 simp only [app, ret, Option.some.injEq, Prod.mk.injEq] at h
 obtain ⟨rfl, rfl⟩ := h
 obtain ⟨u1, u2, rfl, hu1, hu2⟩ := args2 ha
 cases hu1; cases hu2
 simp only [Bool.and_eq_true, decide_eq_true_eq] at g
 obtain ⟨⟨g1, g2⟩, g3⟩ := g
 have := hc s c.toNat w (by omega) g3
 rw [show ((c.toNat : Nat) : Int) = c by omega] at this
 refine this.mono ?_
 rintro e w' ⟨rfl, hbl⟩
 exact ⟨_, I, rfl, .str _, hR.below hbl, .below I H hbl⟩
end
end Go.Proofs.YtbphjihgbenkdaaGreat.HQ
