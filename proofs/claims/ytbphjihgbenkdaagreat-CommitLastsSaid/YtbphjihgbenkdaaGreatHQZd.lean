/- Lemmas for the row. Conditions: none. -/
import Derived.Test.YtbphjihgbenkdaaGreatHQSr
import Derived.Test.YtbphjihgbenkdaaGreatHQZa
namespace Go.Proofs.YtbphjihgbenkdaaGreat.HQ
set_option linter.unusedVariables false
set_option linter.unusedSectionVars false
set_option linter.unusedSimpArgs false
open Go
set_option linter.unusedSectionVars false
abbrev DD := HV → List HV → M HV
abbrev Clo := DD → List HV → M HV
abbrev Rnd := DD → Nat → List (Nat × HV) → List HV → M Leaf
def lkA {α : Type} : List (Nat × α) → Nat → Option α
 | [], _ => none
 | (i, g) :: r, f => match Nat.beq f i with
  | true => some g
  | false => lkA r f
def rndD (rn : List (Nat × Rnd)) (D : DD) (l : Nat) (args : List HV) : M HV := fun H n => match H.get l with
 | .spc (.loop k vs _ _) => match lkA rn k with
  | some m => roundL l (m D l vs args) H n
  | none => none
 | _ => none
def stepD (cl : List (Nat × Clo)) (rn : List (Nat × Rnd)) (D : DD) : DD := fun v args => match v with
 | .func i first cap => match lkA cl i with
  | some g => g D (first ++ args ++ cap)
  | none => stk
 | .yld l => rndD rn D l args
 | _ => stk
def levD (cl : List (Nat × Clo)) (rn : List (Nat × Rnd)) : Nat → DD
 | 0 => noD
 | n + 1 => stepD cl rn (levD cl rn n)
def sitesF (f : Func) (an : Ann) : List (Nat × Site) := match f.body with
 | some c => (sites c an).map fun s => (f.ntmps, s)
 | none => []
def siteIn (l : List (Nat × Site)) (k sz : Nat) (ps : Array Tmp) (a b : Code) : Prop := ∃ e ∈ l, e.2.k = k ∧ e.1 ≤ sz ∧ e.2.ps = ps ∧ e.2.a = a ∧ e.2.b = b
variable [Sites]
section
variable {P : Program} {gl : Nat → Option Nat}
theorem hst_of {l : List (Nat × Site)} (hl : ∀ k sz ps a b, siteIn l k sz ps a b → Sites.ok k 0 sz ps a b) {fn : Func} {an : Ann} (h : ∀ e ∈ sitesF fn an, e ∈ l) :
  ∀ c, fn.body = some c → ∀ s ∈ sites c an, ∀ m, fn.ntmps ≤ m → Sites.ok s.k 0 m s.ps s.a s.b := by
 intro c hc s hs m hm
 refine hl _ _ _ _ _ ⟨(fn.ntmps, s), h _ ?_, rfl, hm, rfl, rfl, rfl⟩
 unfold sitesF
 rw [hc]
 exact List.mem_map.2 ⟨s, hs, rfl⟩
theorem hst_none {fn : Func} {an : Ann} (h : emp (sitesF fn an) = true) : ∀ c, fn.body = some c → ∀ s ∈ sites c an, ∀ m, fn.ntmps ≤ m → Sites.ok s.k 0 m s.ps s.a s.b := by
 intro c hc s hs m hm
 have := emp_nil h
 unfold sitesF at this
 rw [hc] at this
 rw [List.map_eq_nil_iff.1 this] at hs
 cases hs
theorem rst_none {e : Nat × Site} {an : Ann} (h : emp (sites e.2.b an) = true) : ∀ s' ∈ sites e.2.b an, ∀ m, e.1 ≤ m → Sites.ok s'.k 0 m s'.ps s'.a s'.b := by
 intro s hs
 rw [emp_nil h] at hs; cases hs
def RdOk (P : Program) (gl : Nat → Option Nat) (e : Nat × Site) (m : Rnd) : Prop := ∀ D, DOk P gl D → ∃ E esc J Jp an1 an2 ids, EnvOk P E ∧ E.gl = gl ∧ rndChk e.2 J Jp an1 e.1 = true ∧ (∀ s' ∈ sites e.2.b an2, ∀ m, e.1 ≤ m → Sites.ok s'.k 0 m s'.ps s'.a s'.b) ∧ ∀ l vs args, m D l vs args = roundD E P esc e.2 J Jp an1 an2 ids l vs args
def RnOk (P : Program) (gl : Nat → Option Nat) (es : List (Nat × Site)) (rn : List (Nat × Rnd)) : Prop := ∀ e ∈ es, ∀ m, lkA rn e.2.k = some m → RdOk P gl e m
theorem rn_nil : RnOk P gl [] [] := fun e h => by cases h
theorem rn_cons {e : Nat × Site} {es : List (Nat × Site)} {m : Rnd} {k : Nat} {rn : List (Nat × Rnd)} (hk : Nat.beq e.2.k k = true) (hm : RdOk P gl e m) (hn : mem k (es.map fun e => e.2.k) = false) (h : RnOk P gl es rn) : RnOk P gl (e :: es) ((k, m) :: rn) := by
 intro e' he' m' hm'
 rcases List.mem_cons.1 he' with rfl | he'
 ·simp only [lkA, hk] at hm'
  cases hm'; exact hm
 ·simp only [lkA] at hm'
  split at hm'
  ·rename_i hb
   have h1 := Nat.eq_of_beq_eq_true hb
   have h2 : k ∈ es.map fun e => e.2.k := by rw [← h1]; exact List.mem_map.2 ⟨e', he', rfl⟩
   rw [(mem_iff _ _).2 h2] at hn; cases hn
  ·exact h e' he' m' hm'
def ClOk (P : Program) (gl : Nat → Option Nat) (cl : List (Nat × Clo)) : Prop := ∀ i g, lkA cl i = some g → ∀ D, DOk P gl D → FnOk P gl i (g D)
theorem cl_nil : ClOk P gl [] := fun i g h => by cases h
theorem cl_cons {i : Nat} {g : Clo} {cl : List (Nat × Clo)} (hg : ∀ D, DOk P gl D → FnOk P gl i (g D)) (h : ClOk P gl cl) : ClOk P gl ((i, g) :: cl) := by
 intro j g' e
 simp only [lkA] at e
 split at e
 ·rename_i hb; cases e; rw [Nat.eq_of_beq_eq_true hb]; exact hg
 ·exact h j g' e
theorem stepD_ok (hmx : P.follows .mixedOrders = true) {cl : List (Nat × Clo)} {rn : List (Nat × Rnd)} {es : List (Nat × Site)} (hcl : ClOk P gl cl) (hrn : RnOk P gl es rn) (hS : ∀ k sz ps a b, Sites.ok k 0 sz ps a b → siteIn es k sz ps a b) {D : DD} (hD : DOk P gl D) : DOk P gl (stepD cl rn D) := by
 intro hv args H n r H' h I w v args' hR hgl hvr hargs
 replace h : app (stepD cl rn D hv args) H n = some (r, H') := h
 unfold stepD at h
 split at h
 ·rename_i i first cap
  split at h
  ·rename_i g hg
   obtain ⟨h1, h2⟩ := hcl i g hg D hD
   cases hvr with
   | @func _ _ _ f1 c1 a b =>
    refine .inl ⟨i, f1.toArray, c1.toArray, rfl, h1, ?_⟩
    have := h2 _ H n r H' h I w (f1 ++ args' ++ c1) hR hgl ((a.append hargs).append b)
    simpa using this
  ·exact (stk_some h).elim
 ·rename_i l
  replace h : rndD rn D l args H n = some (r, H') := h
  unfold rndD at h
  split at h
  case h_2 => cases h
  rename_i k vs st pd hg
  split at h
  case h_2 => cases h
  rename_i m hm
  cases hvr with
  | @yld _ l' hj =>
   obtain ⟨_, _, hrec, hq⟩ := hR.spc _ _ _ _ hj hg
   obtain ⟨rec, rfl, e1, e2, e3, e4⟩ := hq.is_loop
   obtain ⟨e, he, hk, q1, q2, q3, q4⟩ := hS _ _ _ _ _ e3
   rw [← hk] at hm
   obtain ⟨E, esc, J, Jp, an1, an2, ids, hE, rfl, hck, hsb, ht⟩ := hrn e he m hm D hD
   rw [ht] at h
   obtain ⟨s1, s2⟩ := round_ok hE hmx h hR hgl hj e4 hargs q2.symm q3.symm q4.symm hrec (fun s' hs' => hsb s' hs' _ q1) hck q1
   exact .inr ⟨l, l', rfl, rfl, rec, hrec, s1, s2⟩
 ·exact (stk_some h).elim
theorem levD_ok (hmx : P.follows .mixedOrders = true) {cl : List (Nat × Clo)} {rn : List (Nat × Rnd)} {es : List (Nat × Site)} (hcl : ClOk P gl cl) (hrn : RnOk P gl es rn) (hS : ∀ k sz ps a b, Sites.ok k 0 sz ps a b → siteIn es k sz ps a b) : ∀ n, DOk P gl (levD cl rn n)
 | 0 => noD_ok
 | n + 1 => stepD_ok hmx hcl hrn hS (levD_ok hmx hcl hrn hS n)
end
end Go.Proofs.YtbphjihgbenkdaaGreat.HQ
