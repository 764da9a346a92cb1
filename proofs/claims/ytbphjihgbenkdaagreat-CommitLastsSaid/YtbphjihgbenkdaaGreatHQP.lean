/- Lemmas for the row. Conditions: none. -/
import Derived.Test.YtbphjihgbenkdaaGreatHQO
namespace Go.Proofs.YtbphjihgbenkdaaGreat.HQ
set_option linter.unusedVariables false
set_option linter.unusedSectionVars false
set_option linter.unusedSimpArgs false
open Go
set_option linter.unusedSectionVars false
variable [Sites]
section
variable {E : Env} {P : Program} {I0 : Inj} {H0 : Heap} {w0 : World} {nt : Cx}
def Post (E : Env) (P : Program) (I0 : Inj) (H0 : Heap) (w0 : World) (nt : Cx) (K : St → M Leaf) (n : Nat) (r : Leaf × Heap) (Q : Act → World → Prop) : Prop :=
 ∀ β I H w S a, K S H n = some r → Inv E P I0 H0 w0 nt β I H w S a → Q a w
theorem yielded_eq {all : Array Oper} {tmps : Array Value} {j g : Nat} {c : Bool} (hg : (all[j]?).bind (·.dst) = some g) (hv : tmps.getD g undef = .bool c) : yielded all tmps j = some c := by
 unfold yielded
 rw [hg]
 simp only [Option.bind_some]
 cases e : tmps[g]? with
 | none => simp [Array.getD_eq_getD_getElem?, e, undef] at hv
 | some v => simp [Array.getD_eq_getD_getElem?, e] at hv; subst hv; rfl
theorem yielded_ud {all : Array Oper} {tmps : Array Value} {j g : Nat} (hg : (all[j]?).bind (·.dst) = some g) (hv : tmps.getD g undef = undef) : yielded all tmps j = none := by
 unfold yielded
 rw [hg]
 simp only [Option.bind_some]
 cases e : tmps[g]? with
 | none => rfl
 | some v => simp [Array.getD_eq_getD_getElem?, e] at hv; subst hv; rfl
theorem vr_ud {I : Inj} : VR I (.tup []) undef := VR.tup VRs.nil
theorem vr_ud' {I : Inj} {v : Value} (h : VR I (.tup []) v) : v = undef := by
 cases h with
 | tup a => cases a; rfl
variable {ro : Option Nat}
theorem ops_ok {esc : Nat → Bool} {all : Array Oper} {Q : Exit → Act → World → Prop} {K : St → M Leaf} {n : Nat} {r : Leaf × Heap} (hE : EnvOk P E) (hQ : Post E P I0 H0 w0 nt K n r (Q .normal)) :
  ∀ (l : List Oper), (∀ o ∈ l, ∀ d, o.dst = some d → d < nt.nt ∧ ∀ b ∈ nt.bars, d ∈ b.T) → ∀ {β I H w S a}, denOps E P esc all l S K H n = some r → Inv E P I0 H0 w0 nt β I H w S a → wpListIn (FW ro) 0 P all Q l a w
 | [], _, β, I, H, w, S, a, h, hI => hQ β I H w S a h hI
 | o :: rest, hd, β, I, H, w, S, a, h, hI => by
  have hrest : ∀ {β I H w S a}, denOps E P esc all rest S K H n = some r → Inv E P I0 H0 w0 nt β I H w S a → wpListIn (FW ro) 0 P all Q rest a w :=
   fun h hI => ops_ok hE hQ rest (fun o ho => hd o (List.mem_cons_of_mem _ ho)) h hI
  have hk : ∀ {β I H w S a}, opD E P esc o S (fun s S' => denOps E P esc all rest (S'.put o.dst s) K) H n = some r → Inv E P I0 H0 w0 nt β I H w S a → o.wpIn (FW ro) 0 P a w (wpListIn (FW ro) 0 P all Q rest) Q := by
   intro β I H w S a h hI
   refine op_ok hE hI h ?_
   intro sv S' H' I' β' w' v hK hI' hsv
   exact hrest hK (hI'.put hsv (hd o List.mem_cons_self))
  replace h : app (denOps E P esc all (o :: rest) S K) H n = some r := h
  unfold denOps at h
  unfold wpListIn
  split at h
  ·rename_i hg
   rw [if_pos (by simp [Region.wanted, hg])]
   exact hk h hI
  ·rename_i j want hg
   split at h
   ·rename_i g hgt
    split at h
    ·rename_i c hc
     have hcv : a.tmps.getD g undef = .bool c := by
      have h1 := hI.fr g
      rw [hc] at h1
      have h2 : VR I (.bool c) (a.tmps.getD g undef) := h1
      generalize a.tmps.getD g undef = u at h2
      cases h2; rfl
     have hy := yielded_eq hgt hcv
     have hw : Region.wanted o (yielded all a.tmps) = (c == want) := by
      simp only [Region.wanted, hg, hy]
      cases c <;> cases want <;> rfl
     have hput : Inv E P I0 H0 w0 nt β I H w (S.put (some g) (.v (.bool c))) a := by
      refine ⟨hI.step, hI.rel, ?_, hI.br, hI.fresh, hI.gl, hI.sz, hI.anc, hI.defers⟩
      intro x
      simp only [St.put, Fr.get_set]
      split
      ·rename_i hx; subst hx; rw [hcv]; exact VR.bool c
      ·exact hI.fr x
     rw [hw]
     cases c <;> cases want <;> simp only [app, cond_true, cond_false] at h
     ·rw [if_pos (by rfl)]; exact hk h hput
     ·rw [if_neg (by simp)]; exact ⟨fun _ _ => trivial, hrest h (hput.put (v := undef) vr_ud (hd o List.mem_cons_self))⟩
     ·rw [if_neg (by simp)]; exact ⟨fun _ _ => trivial, hrest h (hput.put (v := undef) vr_ud (hd o List.mem_cons_self))⟩
     ·rw [if_pos (by rfl)]; exact hk h hput
    ·rename_i hc
     have hy := yielded_ud (tmps := a.tmps) hgt (vr_ud' (by have h1 := hI.fr g; rw [hc] at h1; exact h1))
     have hw : Region.wanted o (yielded all a.tmps) = false := by
      simp only [Region.wanted, hg, hy]; rfl
     rw [hw, if_neg (by simp)]
     exact ⟨fun _ _ => trivial, hrest h (hI.put (v := undef) vr_ud (hd o List.mem_cons_self))⟩
    ·exact (stk_some h).elim
   ·exact (stk_some h).elim
end
end Go.Proofs.YtbphjihgbenkdaaGreat.HQ
