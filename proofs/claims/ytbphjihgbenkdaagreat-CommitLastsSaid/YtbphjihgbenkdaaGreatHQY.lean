/- Lemmas for the row. Conditions: none. -/
import Derived.Test.YtbphjihgbenkdaaGreatHQQ
import Derived.Test.YtbphjihgbenkdaaGreatHQP
namespace Go.Proofs.YtbphjihgbenkdaaGreat.HQ
set_option linter.unusedVariables false
set_option linter.unusedSectionVars false
set_option linter.unusedSimpArgs false
open Go
set_option linter.unusedSectionVars false
variable [Sites]
section
variable {E : Env} {P : Program} {esc : Nat → Bool} {n : Nat} {H : Heap}
def Pure (E : Env) (P : Program) (esc : Nat → Bool) (o : Oper) (S : St) (n : Nat) (sv : SV) : Prop :=
 ∀ {α : Type} (K : SV → St → M α) (S2 : St) (H2 : Heap), (∀ x ∈ o.op.operands.toList, S2.ev E x = S.ev E x) → opD E P esc o S2 K H2 n = K sv S2 H2 n
def wrB (d : Option Nat) (wc : List HV) (B : Bx) : Bx := match d with
 | some d => .set d wc B
 | none => B
theorem wrB_get (d : Option Nat) (wc : List HV) (B : Bx) (e : Nat) : (wrB d wc B).get e = if d = some e then some wc else B.get e := by
 cases d with
 | none => simp [wrB]
 | some d =>
  simp only [wrB, Bx.get, Option.some.injEq]
  by_cases h : e = d
  ·subst h; simp
  ·have : Nat.beq e d = false := by
    cases hb : Nat.beq e d
    ·rfl
    ·exact absurd (Nat.eq_of_beq_eq_true hb) h
   rw [this, if_neg (Ne.symm h)]
theorem wrB_under (d : Option Nat) (wc : List HV) (B : Bx) (lv : Nat) : Bx.under lv (wrB d wc B) = Bx.under lv B := by
 cases d <;> rfl
def Does (E : Env) (P : Program) (esc : Nat → Bool) (o : Oper) (S : St) (H : Heap) (n : Nat) (sv : SV) (wc : List HV) (H' : Heap) : Prop :=
 ((clOf E esc o S).wH = false → H' = H) ∧
 ∀ {α : Type} (K : SV → St → M α) (S2 : St) (H2 : Heap), (∀ x ∈ o.op.operands.toList, S2.ev E x = S.ev E x) →
  (∀ d, (clOf E esc o S).rB = some d ∨ (clOf E esc o S).wB = some d → S2.B.get d = S.B.get d) → ((clOf E esc o S).rH = true ∨ (clOf E esc o S).wH = true → H2 = H) → (∀ b, (clOf E esc o S).fB = some b → H2.get b = H.get b) →
  opD E P esc o S2 K H2 n = K sv ⟨S2.F, wrB (clOf E esc o S).wB wc S2.B⟩ (cond (clOf E esc o S).wH H' H2) n
theorem Does.of_pure {o : Oper} {S : St} {sv : SV} (h : Pure E P esc o S n sv) (hc : clOf E esc o S = Cl.no) : Does E P esc o S H n sv [] H := by
 refine ⟨fun _ => rfl, fun K S2 H2 he _ _ _ => ?_⟩
 rw [hc]; exact h K S2 H2 he
theorem gd_true {α : Type} {b : Bool} {m : M α} (h : b = true) (H : Heap) (n : Nat) : gd b m H n = m H n := by subst h; rfl
theorem mP_eq {α : Type} {p : Option (Nat × Nat)} {b o : Nat} {f : Nat → Nat → M α} (h : p = some (b, o)) (H : Heap) (n : Nat) : mP p f H n = f b o H n := by subst h; rfl
theorem Sc.d_eq {α : Type} {s : Sc} {x : HV} {K : HV → M α} {r : α × Heap} (h : s.d x K H n = some r) : ∀ {β : Type} (K' : HV → M β) (H' : Heap), s.d x K' H' n = K' x H' n := by
 intro β K' H'
 cases s <;> simp only [Sc.d] at h ⊢
 ·cases x <;> simp only [asI] at h ⊢ <;> first | exact (stk_some h).elim | skip
  obtain ⟨g, _⟩ := gd_some h
  rw [gd_true g]
  have := of_decide_eq_true g; subst this; rfl
 ·cases x <;> simp only [asB] at h ⊢ <;> exact (stk_some h).elim
 ·cases x <;> simp only [asS] at h ⊢ <;> exact (stk_some h).elim
 ·cases x <;> simp only [asP] at h ⊢ <;> exact (stk_some h).elim
 ·cases x <;> simp only [asSl] at h ⊢ <;> exact (stk_some h).elim
 ·cases x <;> simp only [asM] at h ⊢ <;> exact (stk_some h).elim
 ·cases x <;> simp only [asF] at h ⊢ <;> exact (stk_some h).elim
theorem Sc.ds_eq {l : List Sc} : ∀ {α : Type} {x : List HV} {K : List HV → M α} {r : α × Heap}, Sc.ds l x K H n = some r → ∀ {β : Type} (K' : List HV → M β) (H' : Heap), Sc.ds l x K' H' n = K' x H' n := by
 induction l with
 | nil =>
  intro α x K r h β K' H'
  cases x with
  | nil => rfl
  | cons v x => exact (stk_some (H := H) (n := n) (r := r) h).elim
 | cons s l ih =>
  intro α x K r h β K' H'
  cases x with
  | nil => exact (stk_some (H := H) (n := n) (r := r) h).elim
  | cons v x =>
   replace h : s.d v (fun v' => Sc.ds l x fun vs' => K (v' :: vs')) H n = some r := h
   show s.d v (fun v' => Sc.ds l x fun vs' => K' (v' :: vs')) H' n = _
   rw [Sc.d_eq h]
   exact ih (Sc.d_some h) _ _
theorem Sh1.d_eq {α : Type} {s : Sh1} {x : HV} {K : HV → M α} {r : α × Heap} (h : s.d x K H n = some r) : ∀ {β : Type} (K' : HV → M β) (H' : Heap), s.d x K' H' n = K' x H' n := by
 intro β K' H'
 cases s <;> simp only [Sh1.d] at h ⊢
 ·exact Sc.d_eq h K' H'
 ·cases x <;> simp only [asA] at h ⊢ <;> first | exact (stk_some h).elim | exact Sc.ds_eq h _ _
 ·cases x <;> simp only [asA] at h ⊢ <;> exact (stk_some h).elim
theorem Sh1.ds_eq {l : List Sh1} : ∀ {α : Type} {x : List HV} {K : List HV → M α} {r : α × Heap}, Sh1.ds l x K H n = some r → ∀ {β : Type} (K' : List HV → M β) (H' : Heap), Sh1.ds l x K' H' n = K' x H' n := by
 induction l with
 | nil =>
  intro α x K r h β K' H'
  cases x with
  | nil => rfl
  | cons v x => exact (stk_some (H := H) (n := n) (r := r) h).elim
 | cons s l ih =>
  intro α x K r h β K' H'
  cases x with
  | nil => exact (stk_some (H := H) (n := n) (r := r) h).elim
  | cons v x =>
   replace h : s.d v (fun v' => Sh1.ds l x fun vs' => K (v' :: vs')) H n = some r := h
   show s.d v (fun v' => Sh1.ds l x fun vs' => K' (v' :: vs')) H' n = _
   rw [Sh1.d_eq h]
   exact ih (Sh1.d_some h) _ _
theorem Sh.d_eq {α : Type} {s : Sh} {x : HV} {K : HV → M α} {r : α × Heap} (h : s.d x K H n = some r) : ∀ {β : Type} (K' : HV → M β) (H' : Heap), s.d x K' H' n = K' x H' n := by
 intro β K' H'
 cases s <;> simp only [Sh.d] at h ⊢
 ·exact Sh1.d_eq h K' H'
 ·cases x <;> simp only [asT] at h ⊢ <;> first | exact (stk_some h).elim | exact Sh1.ds_eq h _ _
theorem partA_eq {α : Type} {t : TypeId} {cs : List HV} {off : Nat} {K : HV → M α} {r : α × Heap} (h : partA P t cs off K H n = some r) :
  ∃ hv, K hv H n = some r ∧ ∀ {β : Type} (K' : HV → M β) (H' : Heap), partA P t cs off K' H' n = K' hv H' n := by
 replace h : app (partA P t cs off K) H n = some r := h
 unfold partA at h
 split at h
 ·rename_i e
  obtain ⟨h1, h2⟩ := gxN_some h
  refine ⟨_, Sh1.d_some h2, fun K' H' => ?_⟩
  simp only [partA, e]
  unfold gxN
  rw [gd_true (by simpa using h1)]
  exact Sh1.d_eq h2 K' H'
 ·rename_i e
  obtain ⟨v, h1, h2⟩ := gx_some h
  refine ⟨_, Sh1.d_some h2, fun K' H' => ?_⟩
  simp only [partA, e]
  unfold gx
  rw [h1]
  exact Sh1.d_eq h2 K' H'
 ·exact (stk_some h).elim
def Goes (f : ∀ {α : Type}, (SV → St → M α) → St → M α) (H : Heap) (n : Nat) : Prop :=
 ∀ {α : Type} {K : SV → St → M α} {S : St} {r : α × Heap}, f K S H n = some r → ∃ sv, K sv S H n = some r ∧ ∀ {β : Type} (K' : SV → St → M β) (S' : St) (H' : Heap), f K' S' H' n = K' sv S' H' n
theorem goes_bin (op : BinOp) (t : TypeId) (x y : SV) : Goes (fun K S => binD P op t x y S K) H n := by
 intro α K S r h
 replace h : app (binD P op t x y S K) H n = some r := h
 unfold binD at h
 split at h
 ·rename_i va vb
  split at h
  ·rename_i g v hs
   obtain ⟨hg, h⟩ := gd_some h
   exact ⟨_, h, fun K' S' H' => by simp only [binD, hs]; exact gd_true hg _ _⟩
  rename_i hsn
  split at h
  ·rename_i ua ub ea eb
   split at h
   ·rename_i rv hq
    split at h
    ·rename_i hh hb
     exact ⟨_, h, fun K' S' H' => by simp only [binD, hsn, ea, eb, hq, hb]⟩
    ·exact (stk_some h).elim
   ·exact (stk_some h).elim
  ·rename_i hne
   split at h
   ·split at h
    ·rename_i hp; exact ⟨_, h, fun K' S' H' => by simp only [binD, hsn, toV, hp]⟩
    ·exact (stk_some h).elim
   ·split at h
    ·rename_i hp; exact ⟨_, h, fun K' S' H' => by simp only [binD, hsn, toV, hp]⟩
    ·exact (stk_some h).elim
   ·split at h
    ·rename_i hp; exact ⟨_, h, fun K' S' H' => by simp only [binD, hsn, toV, hp]⟩
    ·exact (stk_some h).elim
   ·split at h
    ·rename_i hp; exact ⟨_, h, fun K' S' H' => by simp only [binD, hsn, toV, hp]⟩
    ·exact (stk_some h).elim
   ·split at h
    ·rename_i hsc
     split at h
     ·rename_i e he; exact ⟨_, h, fun K' S' H' => by simp only [binD, hsn, toV, hsc, he]⟩
     ·rename_i he
      split at h
      ·rename_i sh hs
       obtain ⟨e, hq, h⟩ := eqM_some h
       exact ⟨_, h, fun K' S' H' => by simp only [binD, hsn, toV, hsc, he, hs, eqM, hq]⟩
      ·exact (stk_some h).elim
    ·rename_i hsc
     split at h
     ·rename_i sh hs
      obtain ⟨e, hq, h⟩ := eqM_some h
      exact ⟨_, h, fun K' S' H' => by simp only [binD, hsn, toV, hsc, hs, eqM, hq]⟩
     ·exact (stk_some h).elim
   ·split at h
    ·rename_i hsc
     split at h
     ·rename_i e he; exact ⟨_, h, fun K' S' H' => by simp only [binD, hsn, toV, hsc, he]⟩
     ·rename_i he
      split at h
      ·rename_i sh hs
       obtain ⟨e, hq, h⟩ := eqM_some h
       exact ⟨_, h, fun K' S' H' => by simp only [binD, hsn, toV, hsc, he, hs, eqM, hq]⟩
      ·exact (stk_some h).elim
    ·rename_i hsc
     split at h
     ·rename_i sh hs
      obtain ⟨e, hq, h⟩ := eqM_some h
      exact ⟨_, h, fun K' S' H' => by simp only [binD, hsn, toV, hsc, hs, eqM, hq]⟩
     ·exact (stk_some h).elim
   ·exact (stk_some h).elim
 ·exact (stk_some h).elim
theorem goes_if (op : BinOp) (t : TypeId) (yo : Operand) (x y : SV) : Goes (fun K S => ifD P op t yo x S K (binD P op t x y S K)) H n := by
 intro α K S r h
 replace h : app (ifD P op t yo x S K (binD P op t x y S K)) H n = some r := h
 cases hn : nilC yo with
 | false => simp only [app, ifD, hn] at h; obtain ⟨sv, h1, h2⟩ := goes_bin op t _ y h; exact ⟨sv, h1, fun K' S' H' => by simp only [ifD, hn]; exact h2 K' S' H'⟩
 | true =>
  cases x with
  | v a =>
   cases a with
   | ifc b =>
    simp only [ifD, hn] at h
    split at h
    ·rename_i hp; exact ⟨_, h, fun K' S' H' => by simp only [ifD, hn, hp]⟩
    ·rename_i hp; exact ⟨_, h, fun K' S' H' => by simp only [ifD, hn, hp]⟩
    ·exact (stk_some h).elim
   | _ => simp only [app, ifD, hn] at h; obtain ⟨sv, h1, h2⟩ := goes_bin op t _ y h; exact ⟨sv, h1, fun K' S' H' => by simp only [ifD, hn]; exact h2 K' S' H'⟩
  | _ => simp only [app, ifD, hn] at h; obtain ⟨sv, h1, h2⟩ := goes_bin op t _ y h; exact ⟨sv, h1, fun K' S' H' => by simp only [ifD, hn]; exact h2 K' S' H'⟩
theorem goes_un (op : UnOp) (x : SV) : Goes (fun K S => unD P op x S K) H n := by
 intro α K S r h
 replace h : app (unD P op x S K) H n = some r := h
 unfold unD at h
 split at h
 ·split at h
  ·rename_i ua ea
   split at h
   ·rename_i rv hq
    split at h
    ·rename_i hh hb
     exact ⟨_, h, fun K' S' H' => by simp only [unD, ea, hq, hb]⟩
    ·exact (stk_some h).elim
   ·exact (stk_some h).elim
  ·exact (stk_some h).elim
 ·exact (stk_some h).elim
theorem goes_conv (s d : TypeId) (x : SV) : Goes (fun K S => convD P s d x S K) H n := by
 intro α K S r h
 replace h : app (convD P s d x S K) H n = some r := h
 unfold convD at h
 split at h
 ·split at h
  ·rename_i h1 h2; exact ⟨_, h, fun K' S' H' => by simp only [convD, h1, h2]⟩
  ·rename_i h1 h2; exact ⟨_, h, fun K' S' H' => by simp only [convD, h1, h2]⟩
  ·exact (stk_some h).elim
 ·exact (stk_some h).elim
theorem goes_len (t : TypeId) (x : SV) : Goes (fun K S => lenD P t x S K) H n := by
 intro α K S r h
 replace h : app (lenD P t x S K) H n = some r := h
 unfold lenD at h
 split at h
 ·rename_i hu; exact ⟨_, h, fun K' S' H' => by simp only [lenD, hu]⟩
 ·rename_i hu; exact ⟨_, h, fun K' S' H' => by simp only [lenD, hu]⟩
 ·rename_i hu; exact ⟨_, h, fun K' S' H' => by simp only [lenD, hu]⟩
 ·rename_i hu; exact ⟨_, h, fun K' S' H' => by simp only [lenD, hu]⟩
 ·exact (stk_some h).elim
theorem goes_idx (t : TypeId) (x i : SV) : Goes (fun K S => idxD P t x i S K) H n := by
 intro α K S r h
 replace h : app (idxD P t x i S K) H n = some r := h
 unfold idxD at h
 split at h
 ·split at h
  ·rename_i e s hu
   split at h
   ·rename_i inf hi
    obtain ⟨g1, h⟩ := gd_some h
    obtain ⟨g2, h⟩ := gd_some h
    obtain ⟨b, o, hp, h⟩ := mP_some h
    exact ⟨_, h, fun K' S' H' => by simp only [idxD, hu, hi]; unfold ix; rw [gd_true g1, gd_true g2, mP_eq hp]⟩
   ·exact (stk_some h).elim
  ·rename_i m e d off hu
   split at h
   ·rename_i inf hi
    obtain ⟨g1, h⟩ := gd_some h
    obtain ⟨g2, h⟩ := gd_some h
    exact ⟨_, h, fun K' S' H' => by simp only [idxD, hu, hi]; rw [gd_true g1, gd_true g2]⟩
   ·exact (stk_some h).elim
  ·rename_i m e p hu
   split at h
   ·rename_i inf hi
    obtain ⟨b, o, hp, h⟩ := mP_some h
    obtain ⟨g1, h⟩ := gd_some h
    obtain ⟨g2, h⟩ := gd_some h
    exact ⟨_, h, fun K' S' H' => by simp only [idxD, hu, hi]; rw [mP_eq hp, gd_true g1, gd_true g2]⟩
   ·exact (stk_some h).elim
  ·exact (stk_some h).elim
 ·exact (stk_some h).elim
theorem goes_slc (t : TypeId) (x : SV) (lo hi mx : Option SV) : Goes (fun K S => slcD P t x lo hi mx S K) H n := by
 intro α K S r h
 replace h : app (slcD P t x lo hi mx S K) H n = some r := h
 unfold slcD at h
 split at h
 ·rename_i e s hu
  split at h
  ·rename_i l hh m e1 e2 e3
   split at h
   ·rename_i inf hinf
    obtain ⟨g0, h⟩ := gd_some h
    obtain ⟨g1, h⟩ := gd_some h
    obtain ⟨g2, h⟩ := gd_some h
    obtain ⟨g3, h⟩ := gd_some h
    obtain ⟨g4, h⟩ := gd_some h
    exact ⟨_, h, fun K' S' H' => by simp only [slcD, hu, e1, e2, e3, hinf]; rw [gd_true g0, gd_true g1, gd_true g2, gd_true g3, gd_true g4]⟩
   ·exact (stk_some h).elim
  ·exact (stk_some h).elim
 ·rename_i s hu
  split at h
  ·rename_i l hh e1 e2
   obtain ⟨g0, h⟩ := gd_some h
   obtain ⟨g1, h⟩ := gd_some h
   obtain ⟨g2, h⟩ := gd_some h
   exact ⟨_, h, fun K' S' H' => by simp only [slcD, hu, e1, e2]; rw [gd_true g0, gd_true g1, gd_true g2]⟩
  ·exact (stk_some h).elim
 ·exact (stk_some h).elim
end
set_option linter.unusedSectionVars false
variable [Sites]
section
variable {E : Env} {P : Program} {esc : Nat → Bool} {n : Nat} {H : Heap} {o : Oper} {S : St}
def Did {α : Type} (E : Env) (P : Program) (esc : Nat → Bool) (o : Oper) (S : St) (H : Heap) (n : Nat) (K : SV → St → M α) (r : α × Heap) : Prop :=
 ∃ sv wc H', K sv ⟨S.F, wrB (clOf E esc o S).wB wc S.B⟩ H' n = some r ∧ Does E P esc o S H n sv wc H'
theorem did_pure {α : Type} {K : SV → St → M α} {r : α × Heap} {sv : SV} (hp : Pure E P esc o S n sv) (hc : clOf E esc o S = Cl.no) (hk : K sv S H n = some r) : Did E P esc o S H n K r :=
 ⟨sv, [], H, by rw [hc]; exact hk, Does.of_pure hp hc⟩
theorem did_load {α : Type} {K : SV → St → M α} {r : α × Heap} {t : TypeId} {x : Operand} (ho : o.op = .load t x) (h : loadD P t (S.ev E x) S K H n = some r) : Did E P esc o S H n K r := by
 have hmem : x ∈ o.op.operands.toList := by rw [ho]; simp [Op.operands]
 replace h : app (loadD P t (S.ev E x) S K) H n = some r := h
 unfold loadD at h
 split at h
 ·rename_i d off ev
  split at h
  ·rename_i cs eb
   obtain ⟨hv, h1, h2⟩ := partA_eq h
   have hc : clOf E esc o S = ⟨some d, none, false, false, none⟩ := by simp only [clOf, ho, ev]
   refine ⟨_, [], H, by rw [hc]; exact h1, fun _ => rfl, fun K' S2 H2 he hB _ _ => ?_⟩
   simp only [opD, ho, he x hmem, ev, loadD]
   rw [hc] at hB ⊢
   have hBB := hB d (.inl rfl)
   rw [eb] at hBB
   simp only [hBB]
   exact h2 _ _
  ·exact (stk_some h).elim
 ·rename_i p ev
  obtain ⟨b, oo, hp, h⟩ := mP_some h
  subst hp
  have hc : clOf E esc o S = ⟨none, none, true, false, none⟩ ∨ clOf E esc o S = ⟨none, none, false, false, some b⟩ := by
   simp only [clOf, ho, ev]
   cases o.dst with
   | none => exact .inl rfl
   | some d =>
    cases hd : esc d with
    | true => exact .inr (by simp only [hd])
    | false => exact .inl (by simp only [hd])
  have hsame : ∀ {H2 : Heap}, ((clOf E esc o S).rH = true ∨ (clOf E esc o S).wH = true → H2 = H) → (∀ b, (clOf E esc o S).fB = some b → H2.get b = H.get b) → H2.get b = H.get b := by
   intro H2 q1 q2
   rcases hc with hc | hc
   ·rw [q1 (.inl (by rw [hc]))]
   ·exact q2 b (by rw [hc])
  have hw : (clOf E esc o S).wB = none ∧ (clOf E esc o S).wH = false := by rcases hc with hc | hc <;> rw [hc] <;> exact ⟨rfl, rfl⟩
  split at h
  ·rename_i e
   obtain ⟨cs, ro, g1, g2, g3⟩ := ldN_some h
   refine ⟨_, [], H, by rw [hw.1]; exact Sh1.d_some g3, fun _ => rfl, fun K' S2 H2 he _ hH hF => ?_⟩
   have hg := hsame hH hF
   simp only [opD, ho, he x hmem, ev, loadD]
   rw [hw.1, hw.2, mP_eq rfl]
   simp only [e]
   unfold ldN
   simp only [hg, g1]
   unfold gxN
   rw [gd_true (by simpa using g2)]
   exact Sh1.d_eq g3 _ _
  ·rename_i e
   obtain ⟨cs, ro, v, g1, g2, g3⟩ := ldC_some h
   refine ⟨_, [], H, by rw [hw.1]; exact Sh1.d_some g3, fun _ => rfl, fun K' S2 H2 he _ hH hF => ?_⟩
   have hg := hsame hH hF
   simp only [opD, ho, he x hmem, ev, loadD]
   rw [hw.1, hw.2, mP_eq rfl]
   simp only [e]
   unfold ldC
   simp only [hg, g1]
   unfold gx
   simp only [g2]
   exact Sh1.d_eq g3 _ _
  ·exact (stk_some h).elim
 ·exact (stk_some h).elim
theorem sc1_eq {α : Type} {v : HV} {m : M α} (h : v.sc = true) (H : Heap) (n : Nat) : sc1 v m H n = m H n := by
 cases v <;> first | rfl | cases h
theorem nt_eq {α : Type} {v : HV} {m : M α} (h : ∀ l, v ≠ .tup l) (H : Heap) (n : Nat) : HQ.nt v m H n = m H n := by
 cases v <;> first | rfl | exact absurd rfl (h _)
theorem did_store {α : Type} {K : SV → St → M α} {r : α × Heap} {t : TypeId} {x y : Operand} (ho : o.op = .store t x y) (h : storeD P t (S.ev E x) (S.ev E y) S K H n = some r) : Did E P esc o S H n K r := by
 have hx : x ∈ o.op.operands.toList := by rw [ho]; simp [Op.operands]
 have hy : y ∈ o.op.operands.toList := by rw [ho]; simp [Op.operands]
 replace h : app (storeD P t (S.ev E x) (S.ev E y) S K) H n = some r := h
 unfold storeD at h
 split at h
 ·rename_i _ yv ey
  split at h
  ·rename_i eag
   split at h
   ·rename_i l
    split at h
    ·rename_i d off ex
     split at h
     ·rename_i cs eb
      obtain ⟨g1, h⟩ := gd_some h
      obtain ⟨g2, h⟩ := gd_some h
      have hc : clOf E esc o S = ⟨none, some d, false, false, none⟩ := by simp only [clOf, ho, ex]
      refine ⟨_, _, H, by rw [hc]; exact h, fun _ => rfl, fun K' S2 H2 he hB _ _ => ?_⟩
      simp only [opD, ho, he x hx, he y hy, ex, ey, storeD, eag]
      rw [hc] at hB ⊢
      rw [hB d (.inr rfl), eb]
      simp only
      rw [gd_true g1, gd_true g2]
      rfl
     ·exact (stk_some h).elim
    ·rename_i p ex
     obtain ⟨b, oo, hp, h⟩ := mP_some h
     obtain ⟨g1, h⟩ := gd_some h
     obtain ⟨cs, g2, g3, h⟩ := stN_some h
     have hc : clOf E esc o S = ⟨none, none, true, true, none⟩ := by simp only [clOf, ho, ex]
     refine ⟨_, [], _, by rw [hc]; exact h, fun hw => (by rw [hc] at hw; cases hw), fun K' S2 H2 he _ hH _ => ?_⟩
     simp only [opD, ho, he x hx, he y hy, ex, ey, storeD, eag]
     rw [hc] at hH ⊢
     rw [mP_eq hp, gd_true g1, hH (.inl rfl)]
     unfold stN
     simp only [g2]
     rw [gd_true (by simpa using g3)]
     rfl
    ·exact (stk_some h).elim
   ·exact (stk_some h).elim
  ·rename_i eag
   split at h
   ·rename_i d off ex
    split at h
    ·rename_i cs eb
     obtain ⟨g1, h⟩ := gd_some h
     obtain ⟨g2, h⟩ := gd_some h
     obtain ⟨g3, h⟩ := sc1_some h
     have hc : clOf E esc o S = ⟨none, some d, false, false, none⟩ := by simp only [clOf, ho, ex]
     refine ⟨_, _, H, by rw [hc]; exact h, fun _ => rfl, fun K' S2 H2 he hB _ _ => ?_⟩
     simp only [opD, ho, he x hx, he y hy, ex, ey, storeD, eag]
     rw [hc] at hB ⊢
     rw [hB d (.inr rfl), eb]
     simp only
     rw [gd_true g1, gd_true g2, sc1_eq g3]
     rfl
    ·exact (stk_some h).elim
   ·rename_i p ex
    obtain ⟨b, oo, hp, h⟩ := mP_some h
    obtain ⟨g1, h⟩ := gd_some h
    obtain ⟨cs, g2, g3, g4, h⟩ := stC_some h
    have hc : clOf E esc o S = ⟨none, none, true, true, none⟩ := by simp only [clOf, ho, ex]
    refine ⟨_, [], _, by rw [hc]; exact h, fun hw => (by rw [hc] at hw; cases hw), fun K' S2 H2 he _ hH _ => ?_⟩
    simp only [opD, ho, he x hx, he y hy, ex, ey, storeD, eag]
    rw [hc] at hH ⊢
    rw [mP_eq hp, gd_true g1, hH (.inl rfl)]
    unfold stC
    simp only [g2]
    rw [gd_true (by simpa using g3), sc1_eq g4]
    rfl
   ·exact (stk_some h).elim
  ·exact (stk_some h).elim
 ·exact (stk_some h).elim
theorem did_new {α : Type} {K : SV → St → M α} {r : α × Heap} {tt : Option (Nat × Option Nat)} {cs : List HV} (h : newD esc tt o.dst cs S K H n = some r)
  (hc : ∀ d, o.dst = some d → clOf E esc o S = match esc d with | true => ⟨none, none, true, true, none⟩ | false => ⟨none, some d, false, false, none⟩)
  (hop : ∀ {β : Type} (K' : SV → St → M β) (S2 : St) (H2 : Heap), (∀ x ∈ o.op.operands.toList, S2.ev E x = S.ev E x) → opD E P esc o S2 K' H2 n = newD esc tt o.dst cs S2 K' H2 n) : Did E P esc o S H n K r := by
 replace h : app (newD esc tt o.dst cs S K) H n = some r := h
 unfold newD at h
 split at h
 ·exact (stk_some h).elim
 ·rename_i d hd
  have hc := hc d hd
  split at h
  ·rename_i he
   simp only [he] at hc
   refine ⟨_, [], _, by rw [hc]; exact h, fun hw => (by rw [hc] at hw; cases hw), fun K' S2 H2 hev _ hH _ => ?_⟩
   rw [hop K' S2 H2 hev, hd]
   rw [hc] at hH ⊢
   rw [hH (.inl rfl)]
   simp only [newD, he]
   rfl
  ·rename_i he
   simp only [he] at hc
   split at h
   ·exact (stk_some h).elim
   ·rename_i hB
    refine ⟨_, _, H, by rw [hc]; exact h, fun _ => rfl, fun K' S2 H2 hev hB2 _ _ => ?_⟩
    rw [hop K' S2 H2 hev, hd]
    rw [hc] at hB2 ⊢
    simp only [newD, he]
    rw [hB2 d (.inr rfl), hB]
    rfl
theorem did_build {α : Type} {K : SV → St → M α} {r : α × Heap} {t : TypeId} {m : Nat} {ps : Array (Nat × Operand)} (ho : o.op = .buildSlice t m ps) (h : opD E P esc o S K H n = some r) : Did E P esc o S H n K r := by
 have hps : ∀ (S2 : St), (∀ x ∈ o.op.operands.toList, S2.ev E x = S.ev E x) → partsD E S2 ps.toList = partsD E S ps.toList := by
  intro S2 he
  have : ∀ (l : List (Nat × Operand)), (∀ p ∈ l, S2.ev E p.2 = S.ev E p.2) → partsD E S2 l = partsD E S l := by
   intro l
   induction l with
   | nil => intro _; rfl
   | cons p l ih =>
    intro hl
    obtain ⟨i, x⟩ := p
    simp only [partsD]
    rw [hl (i, x) List.mem_cons_self, ih fun q hq => hl q (List.mem_cons_of_mem _ hq)]
  refine this ps.toList fun p hp => he p.2 ?_
  rw [ho]; simp only [Op.operands]
  exact List.mem_map.2 ⟨p, hp, rfl⟩
 replace h : app (opD E P esc o S K) H n = some r := h
 unfold opD at h
 simp only [ho] at h
 split at h
 ·rename_i e hu
  split at h
  ·rename_i z l hz hp
   split at h
   ·rename_i cs hf
    obtain ⟨hlens, h⟩ := gdLens_some h
    split at h
    ·rename_i d hb hd
     split at h
     ·rename_i he
      have hc : clOf E esc o S = ⟨none, none, true, true, none⟩ := by simp only [clOf, ho, hd, he]
      refine ⟨_, [], _, by rw [hc]; exact h, fun hw => (by rw [hc] at hw; cases hw), fun K' S2 H2 hev _ hH _ => ?_⟩
      simp only [opD, ho, hu, hz, hps S2 hev, hp, hf]
      rw [gdLens_eq hlens]
      simp only [hb, hd, he]
      rw [hc] at hH ⊢
      rw [hH (.inl rfl)]
      rfl
     ·rename_i he
      split at h
      ·exact (stk_some h).elim
      ·rename_i hB
       have hc : clOf E esc o S = ⟨none, some d, false, false, none⟩ := by simp only [clOf, ho, hd, he]
       refine ⟨_, _, H, by rw [hc]; exact h, fun _ => rfl, fun K' S2 H2 hev hB2 _ _ => ?_⟩
       simp only [opD, ho, hu, hz, hps S2 hev, hp, hf]
       rw [gdLens_eq hlens]
       simp only [hb, hd, he]
       rw [hc] at hB2 ⊢
       rw [hB2 d (.inr rfl), hB]
       rfl
    ·exact (stk_some h).elim
   ·exact (stk_some h).elim
  ·exact (stk_some h).elim
 ·exact (stk_some h).elim
theorem did_mk {α : Type} {K : SV → St → M α} {r : α × Heap} {t : TypeId} {l c : Operand} (ho : o.op = .makeSlice t l c) (h : mkSl P t (S.ev E l) (S.ev E c) S K H n = some r) : Did E P esc o S H n K r := by
 have hl : l ∈ o.op.operands.toList := by rw [ho]; simp [Op.operands]
 have hc' : c ∈ o.op.operands.toList := by rw [ho]; simp [Op.operands]
 have hc : clOf E esc o S = ⟨none, none, true, true, none⟩ := by simp only [clOf, ho]
 replace h : app (mkSl P t (S.ev E l) (S.ev E c) S K) H n = some r := h
 unfold mkSl at h
 split at h
 ·rename_i e lv cv hu el ec
  split at h
  ·rename_i z hz
   split at h
   ·rename_i hzb
    obtain ⟨g1, h⟩ := gd_some h
    obtain ⟨g2, h⟩ := gd_some h
    obtain ⟨g3, h⟩ := gd_some h
    refine ⟨_, [], _, by rw [hc]; exact h, fun hw => (by rw [hc] at hw; cases hw), fun K' S2 H2 hev _ hH _ => ?_⟩
    simp only [opD, ho, mkSl, hev l hl, hev c hc', hu, el, ec, hz, hzb]
    rw [hc] at hH ⊢
    rw [gd_true g1, gd_true g2, gd_true g3, hH (.inl rfl)]
    rfl
   ·exact (stk_some h).elim
  ·exact (stk_some h).elim
 ·exact (stk_some h).elim
theorem evs_eq {S2 : St} : ∀ {l : List Operand}, (∀ x ∈ l, S2.ev E x = S.ev E x) → S2.evs E l = S.evs E l
 | [], _ => rfl
 | x :: l, h => by simp only [St.evs]; rw [h x List.mem_cons_self, evs_eq fun y hy => h y (List.mem_cons_of_mem _ hy)]
theorem did_call {α : Type} {K : SV → St → M α} {r : α × Heap} {c : Call} {f : Operand} (ho : o.op = .call c) (hcal : c.callee = .value f) (h : callD P (tgt E S f) (S.evs E c.args.toList) o.type S K H n = some r) : Did E P esc o S H n K r := by
 have hc : clOf E esc o S = ⟨none, none, true, true, none⟩ := by simp only [clOf, ho, hcal]
 replace h : app (callD P (tgt E S f) (S.evs E c.args.toList) o.type S K) H n = some r := h
 unfold callD at h
 split at h
 ·rename_i g args hg hargs
  obtain ⟨rv, H', hg1, h5⟩ := bnd_some h
  refine ⟨_, [], H', by rw [hc]; exact Sh.d_some h5, fun hw => (by rw [hc] at hw; cases hw), fun K' S2 H2 hev _ hH _ => ?_⟩
  have e1 : S2.evs E c.args.toList = S.evs E c.args.toList := evs_eq fun x hx => hev x (by rw [ho]; simp [Op.operands, Call.operands, hcal]; exact .inr (by simpa using hx))
  have e2 : tgt E S2 f = tgt E S f := by
   have hf : S2.ev E f = S.ev E f := hev f (by rw [ho]; simp [Op.operands, Call.operands, hcal])
   cases f with
   | tmp t => simp only [tgt]; simp only [St.ev] at hf; rw [hf]
   | _ => rfl
  simp only [opD, ho, hcal, callD, e1, e2, hg, hargs]
  rw [hc] at hH ⊢
  rw [hH (.inl rfl)]
  unfold bnd
  simp only [hg1]
  exact Sh.d_eq h5 _ _
 ·exact (stk_some h).elim
theorem apd_eq {α : Type} {s : Sl} {sz by_ m : Nat} {vs : List HV} {f : Sl → M α} {r : α × Heap} (h : apd s sz by_ m vs f H n = some r) :
  ∃ s' H', f s' H' n = some r ∧ ∀ {β : Type} (f' : Sl → M β), apd s sz by_ m vs f' H n = f' s' H' n := by
 obtain ⟨hg, h⟩ := gd_some h
 have hu : ∀ {β : Type} (f' : Sl → M β), apd s sz by_ m vs f' H n = (if s.len + m ≤ s.cap then
   match s.p with
   | none => gd (decide (m = 0)) (f' s) H n
   | some (b, o) => stN b (o + s.len * sz) vs (f' { s with len := s.len + m }) H n
  else match s.p with
   | none => gd (decide (s.len = 0)) (nw vs fun b' => f' { p := some (b', 0), len := m, cap := m, opn := some sz }) H n
   | some (b, o) =>
    match H.get b with
    | .cells cs ro =>
     gxN cs o (s.len * sz) (fun old =>
      match s.opn with
      | none => nw (old ++ vs) fun b' => f' { p := some (b', 0), len := s.len + m, cap := s.len + m, opn := some sz }
      | some es => gd (decide (es = sz) && decide (o = 0) && decide (cs.length = s.len * sz) && !ro) (fun H n =>
        nw (old ++ vs) (fun b' => f' { p := some (b', 0), len := s.len + m, cap := s.len + m, opn := some sz }) (H.set b .dead) n)) H n
    | _ => none) := by
  intro β f'
  unfold apd
  rw [gd_true hg]
  rfl
 replace h : apd s sz by_ m vs f H n = some r := by rw [hu]; exact h
 rw [hu] at h
 by_cases hle : s.len + m ≤ s.cap
 ·rw [if_pos hle] at h
  cases hp : s.p with
  | none =>
   rw [hp] at h
   obtain ⟨g, h⟩ := gd_some h
   exact ⟨_, _, h, fun f' => by rw [hu, if_pos hle, hp]; simp only; rw [gd_true g]⟩
  | some q =>
   obtain ⟨b, oo⟩ := q
   rw [hp] at h
   obtain ⟨cs, g1, g2, h⟩ := stN_some h
   exact ⟨_, _, h, fun f' => by rw [hu, if_pos hle, hp]; simp only; unfold stN; simp only [g1]; rw [gd_true (by simpa using g2)]⟩
 ·rw [if_neg hle] at h
  cases hp : s.p with
  | none =>
   rw [hp] at h
   obtain ⟨g, h⟩ := gd_some h
   exact ⟨_, _, nw_app h, fun f' => by rw [hu, if_neg hle, hp]; simp only; rw [gd_true g]; rfl⟩
  | some q =>
   obtain ⟨b, oo⟩ := q
   rw [hp] at h
   simp only at h
   cases hb : H.get b with
   | dead => rw [hb] at h; cases h
   | spc s => rw [hb] at h; cases h
   | cells cs ro =>
    rw [hb] at h
    obtain ⟨g1, h⟩ := gxN_some h
    cases ho : s.opn with
    | none =>
     rw [ho] at h
     have h5 : f { p := some (H.n, 0), len := s.len + m, cap := s.len + m, opn := some sz } (H.push (.cells ((cs.drop oo).take (s.len * sz) ++ vs) false)) n = some r := h
     exact ⟨_, _, h5, fun f' => by rw [hu, if_neg hle, hp]; simp only [hb, ho]; unfold gxN; rw [gd_true (by simpa using g1)]; rfl⟩
    | some es =>
     rw [ho] at h
     obtain ⟨g2, h⟩ := gd_some h
     have h5 : f { p := some (H.n, 0), len := s.len + m, cap := s.len + m, opn := some sz } ((H.set b .dead).push (.cells ((cs.drop oo).take (s.len * sz) ++ vs) false)) n = some r := h
     exact ⟨_, _, h5, fun f' => by rw [hu, if_neg hle, hp]; simp only [hb, ho]; unfold gxN; rw [gd_true (by simpa using g1)]; exact gd_true g2 H n⟩
theorem apdT_eq {α : Type} {e : Nat} {s : Sl} {sz by_ m : Nat} {vs : List HV} {f : Sl → M α} {r : α × Heap} (h : apdT e s sz by_ m vs f H n = some r) :
  ∃ s' H', f s' H' n = some r ∧ ∀ {β : Type} (f' : Sl → M β), apdT e s sz by_ m vs f' H n = f' s' H' n := by
 obtain ⟨hg, h⟩ := gd_some h
 have hu : ∀ {β : Type} (f' : Sl → M β), apdT e s sz by_ m vs f' H n = (if s.len + m ≤ s.cap then
   match s.p with
   | none => gd (decide (m = 0)) (f' s) H n
   | some (b, o) => stN b (o + s.len * sz) vs (f' { s with len := s.len + m }) H n
  else match s.p with
   | none => gd (decide (s.len = 0)) (nwT (e, none) vs fun b' => f' { p := some (b', 0), len := m, cap := m, opn := some sz }) H n
   | some (b, o) =>
    match H.get b with
    | .cells cs ro =>
     gxN cs o (s.len * sz) (fun old =>
      match s.opn with
      | none => nwT (e, none) (old ++ vs) fun b' => f' { p := some (b', 0), len := s.len + m, cap := s.len + m, opn := some sz }
      | some es => gd (decide (es = sz) && decide (o = 0) && decide (cs.length = s.len * sz) && !ro && decide (H.ty b = some (e, none))) (fun H n =>
        nwT (e, none) (old ++ vs) (fun b' => f' { p := some (b', 0), len := s.len + m, cap := s.len + m, opn := some sz }) (H.set b .dead) n)) H n
    | _ => none) := by
  intro β f'
  unfold apdT
  rw [gd_true hg]
  rfl
 replace h : apdT e s sz by_ m vs f H n = some r := by rw [hu]; exact h
 rw [hu] at h
 by_cases hle : s.len + m ≤ s.cap
 ·rw [if_pos hle] at h
  cases hp : s.p with
  | none =>
   rw [hp] at h
   obtain ⟨g, h⟩ := gd_some h
   exact ⟨_, _, h, fun f' => by rw [hu, if_pos hle, hp]; simp only; rw [gd_true g]⟩
  | some q =>
   obtain ⟨b, oo⟩ := q
   rw [hp] at h
   obtain ⟨cs, g1, g2, h⟩ := stN_some h
   exact ⟨_, _, h, fun f' => by rw [hu, if_pos hle, hp]; simp only; unfold stN; simp only [g1]; rw [gd_true (by simpa using g2)]⟩
 ·rw [if_neg hle] at h
  cases hp : s.p with
  | none =>
   rw [hp] at h
   obtain ⟨g, h⟩ := gd_some h
   exact ⟨_, _, h, fun f' => by rw [hu, if_neg hle, hp]; simp only; rw [gd_true g]; rfl⟩
  | some q =>
   obtain ⟨b, oo⟩ := q
   rw [hp] at h
   simp only at h
   cases hb : H.get b with
   | dead => rw [hb] at h; cases h
   | spc s => rw [hb] at h; cases h
   | cells cs ro =>
    rw [hb] at h
    obtain ⟨g1, h⟩ := gxN_some h
    cases ho : s.opn with
    | none =>
     rw [ho] at h
     have h5 : f { p := some (H.n, 0), len := s.len + m, cap := s.len + m, opn := some sz } (H.pushT (some (e, none)) (.cells ((cs.drop oo).take (s.len * sz) ++ vs) false)) n = some r := h
     exact ⟨_, _, h5, fun f' => by rw [hu, if_neg hle, hp]; simp only [hb, ho]; unfold gxN; rw [gd_true (by simpa using g1)]; rfl⟩
    | some es =>
     rw [ho] at h
     obtain ⟨g2, h⟩ := gd_some h
     have h5 : f { p := some (H.n, 0), len := s.len + m, cap := s.len + m, opn := some sz } ((H.set b .dead).pushT (some (e, none)) (.cells ((cs.drop oo).take (s.len * sz) ++ vs) false)) n = some r := h
     exact ⟨_, _, h5, fun f' => by rw [hu, if_neg hle, hp]; simp only [hb, ho]; unfold gxN; rw [gd_true (by simpa using g1)]; exact gd_true g2 H n⟩
theorem rdS_eq {α : Type} {s : Sl} {sz : Nat} {f : List HV → M α} {r : α × Heap} (h : rdS s sz f H n = some r) : ∃ vs, f vs H n = some r ∧ ∀ {β : Type} (f' : List HV → M β), rdS s sz f' H n = f' vs H n := by
 rcases rdS_some h with ⟨h1, h2, h3⟩ | ⟨b, oo, cs, ro, h1, h2, h3, h4⟩
 ·exact ⟨_, h3, fun f' => by unfold rdS; rw [h1]; simp only; rw [gd_true (by simpa using h2)]⟩
 ·exact ⟨_, h4, fun f' => by unfold rdS; rw [h1]; simp only; unfold ldN; simp only [h2]; unfold gxN; rw [gd_true (by simpa using h3)]⟩
theorem did_app {α : Type} {K : SV → St → M α} {r : α × Heap} {c : Call} {t t' : TypeId} {x y : Operand} (ho : o.op = .call c) (hcal : c.callee = .builtin .append) (h0 : c.argTypes[0]? = some t) (h1 : c.argTypes[1]? = some t') (h2 : c.args[0]? = some x) (h3 : c.args[1]? = some y)
  (hb : (Nat.beq t t' && Nat.beq c.argTypes.size 2 && Nat.beq c.args.size 2) = true) (h : appD P t (S.ev E x) (S.ev E y) S K H n = some r) : Did E P esc o S H n K r := by
 have hx : x ∈ o.op.operands.toList := by rw [ho]; simp only [Op.operands, Call.operands, hcal]; simpa using Array.mem_of_getElem? h2
 have hy : y ∈ o.op.operands.toList := by rw [ho]; simp only [Op.operands, Call.operands, hcal]; simpa using Array.mem_of_getElem? h3
 replace h : app (appD P t (S.ev E x) (S.ev E y) S K) H n = some r := h
 unfold appD at h
 split at h
 ·rename_i e s hu ex
  split at h
  ·rename_i z hz
   split at h
   ·rename_i hzl
    replace h : app (tailD (sizeT P e) (S.ev E y) S fun m vs => apd s (sizeT P e) (bytesT P e) m vs fun s' => K (.v (.sl s')) S) H n = some r := h
    unfold tailD at h
    split at h
    ·rename_i d m ey
     split at h
     ·rename_i cs eb
      replace h : apd s (sizeT P e) (bytesT P e) m cs (fun s' => K (.v (.sl s')) S) H n = some r := h
      obtain ⟨s', H', q1, q2⟩ := apd_eq h
      have hc : clOf E esc o S = ⟨some d, none, true, true, none⟩ := by simp only [clOf, ho, hcal, h3, ey]
      refine ⟨_, [], H', by rw [hc]; exact q1, fun hw => (by rw [hc] at hw; cases hw), fun K' S2 H2 hev hB hH _ => ?_⟩
      simp only [opD, ho, hcal, h0, h1, h2, h3, hb, hev x hx, hev y hy, appD, hu, ex, hz, hzl, tailD, ey]
      rw [hc] at hH hB ⊢
      have hBB := hB d (.inl rfl)
      rw [eb] at hBB
      rw [hH (.inl rfl)]
      simp only [hBB]
      exact q2 _
     ·exact (stk_some h).elim
    ·rename_i s2 ey
     obtain ⟨vs, h5, h6⟩ := rdS_eq h
     replace h5 : apd s (sizeT P e) (bytesT P e) s2.len vs (fun s' => K (.v (.sl s')) S) H n = some r := h5
     obtain ⟨s', H', q1, q2⟩ := apd_eq h5
     have hc : clOf E esc o S = ⟨none, none, true, true, none⟩ := by simp only [clOf, ho, hcal, h3, ey]
     refine ⟨_, [], H', by rw [hc]; exact q1, fun hw => (by rw [hc] at hw; cases hw), fun K' S2 H2 hev hB hH _ => ?_⟩
     simp only [opD, ho, hcal, h0, h1, h2, h3, hb, hev x hx, hev y hy, appD, hu, ex, hz, hzl, tailD, ey]
     rw [hc] at hH hB ⊢
     rw [hH (.inl rfl), h6]
     exact q2 _
    ·exact (stk_some h).elim
   ·exact (stk_some h).elim
  ·exact (stk_some h).elim
 ·exact (stk_some h).elim
theorem apdU_eq {α : Type} {e : Nat} {s : Sl} {sz by_ m : Nat} {vs : List HV} {f : Sl → M α} {r : α × Heap} (h : apdU e s sz by_ m vs f H n = some r) :
  ∃ s' H', f s' H' n = some r ∧ ∀ {β : Type} (f' : Sl → M β), apdU e s sz by_ m vs f' H n = f' s' H' n := by
 unfold apdU at h ⊢
 cases hp : s.p with
 | none => simp only [hp] at h ⊢; exact apdT_eq h
 | some q =>
  obtain ⟨b, o⟩ := q
  cases ho : s.opn with
  | none => simp only [hp, ho] at h ⊢; exact apdT_eq h
  | some es =>
   simp only [hp, ho] at h ⊢
   cases hd : decide (H.ty b = some (e, none)) with
   | true => simp only [hd] at h ⊢; exact apdT_eq h
   | false => simp only [hd] at h ⊢; exact apd_eq h
theorem did_appS {α : Type} {K : SV → St → M α} {r : α × Heap} {c : Call} {t t' : TypeId} {x y : Operand} (ho : o.op = .call c) (hcal : c.callee = .builtin .append) (h0 : c.argTypes[0]? = some t) (h1 : c.argTypes[1]? = some t') (h2 : c.args[0]? = some x) (h3 : c.args[1]? = some y)
  (hn : (Nat.beq t t' && Nat.beq c.argTypes.size 2 && Nat.beq c.args.size 2) = false) (hb : (bstr P t t' && Nat.beq c.argTypes.size 2 && Nat.beq c.args.size 2) = true) (h : appS P t (S.ev E x) (S.ev E y) S K H n = some r) : Did E P esc o S H n K r := by
 have hx : x ∈ o.op.operands.toList := by rw [ho]; simp only [Op.operands, Call.operands, hcal]; simpa using Array.mem_of_getElem? h2
 have hy : y ∈ o.op.operands.toList := by rw [ho]; simp only [Op.operands, Call.operands, hcal]; simpa using Array.mem_of_getElem? h3
 replace h : app (appS P t (S.ev E x) (S.ev E y) S K) H n = some r := h
 unfold appS at h
 split at h
 ·rename_i e s b hu ex ey
  obtain ⟨s', H', q1, q2⟩ := apdU_eq h
  have hc : clOf E esc o S = ⟨none, none, true, true, none⟩ := by simp only [clOf, ho, hcal, h3, ey]
  refine ⟨_, [], H', by rw [hc]; exact q1, fun hw => (by rw [hc] at hw; cases hw), fun K' S2 H2 hev hB hH _ => ?_⟩
  simp only [opD, ho, hcal, h0, h1, h2, h3, hn, hb, hev x hx, hev y hy, appS, hu, ex, ey]
  rw [hc] at hH hB ⊢
  rw [hH (.inl rfl)]
  exact q2 _
 ·exact (stk_some h).elim
theorem did_appZ {α : Type} {K : SV → St → M α} {r : α × Heap} {c : Call} {t t' : TypeId} {x y : Operand} (ho : o.op = .call c) (hcal : c.callee = .builtin .append) (h0 : c.argTypes[0]? = some t) (h1 : c.argTypes[1]? = some t') (h2 : c.args[0]? = some x) (h3 : c.args[1]? = some y)
  (hn : (Nat.beq t t' && Nat.beq c.argTypes.size 2 && Nat.beq c.args.size 2) = false) (hn2 : (bstr P t t' && Nat.beq c.argTypes.size 2 && Nat.beq c.args.size 2) = false) (hb : (zint P t' && Nat.beq c.argTypes.size 2 && Nat.beq c.args.size 2) = true) (h : appZ P t (S.ev E x) (S.ev E y) S K H n = some r) : Did E P esc o S H n K r := by
 have hx : x ∈ o.op.operands.toList := by rw [ho]; simp only [Op.operands, Call.operands, hcal]; simpa using Array.mem_of_getElem? h2
 have hy : y ∈ o.op.operands.toList := by rw [ho]; simp only [Op.operands, Call.operands, hcal]; simpa using Array.mem_of_getElem? h3
 replace h : app (appZ P t (S.ev E x) (S.ev E y) S K) H n = some r := h
 unfold appZ at h
 split at h
 ·rename_i e s k hu ex ey
  split at h
  ·rename_i z hz
   split at h
   ·rename_i hzl
    obtain ⟨g1, h⟩ := gd_some h
    obtain ⟨g2, h⟩ := gd_some h
    have hc : clOf E esc o S = ⟨none, none, true, true, none⟩ := by simp only [clOf, ho, hcal, h3, ey]
    refine ⟨_, [], _, by rw [hc]; exact h, fun hw => (by rw [hc] at hw; cases hw), fun K' S2 H2 hev hB hH _ => ?_⟩
    simp only [opD, ho, hcal, h0, h1, h2, h3, hn, hn2, hb, hev x hx, hev y hy, appZ, hu, ex, ey, hz, hzl]
    rw [hc] at hH hB ⊢
    rw [hH (.inl rfl), gd_true g1, gd_true g2]
    rfl
   ·exact (stk_some h).elim
  ·exact (stk_some h).elim
 ·exact (stk_some h).elim
theorem strM_eq {α : Type} {vs : List HV} {ns : List Int} {f : ByteArray → M α} (h : bytesH vs = some ns) (H : Heap) (n : Nat) : strM vs f H n = f (strB ns) H n := by unfold strM; rw [h]
theorem did_str {α : Type} {K : SV → St → M α} {r : α × Heap} {s d : TypeId} {x : Operand} (ho : o.op = .convert s d x) (hb : bytesSrc P s d = true) (h : strD (S.ev E x) S K H n = some r) : Did E P esc o S H n K r := by
 have hx : x ∈ o.op.operands.toList := by rw [ho]; simp [Op.operands]
 replace h : app (tailD 1 (S.ev E x) S fun m vs => gd (decide (vs.length = m)) (strM vs fun s => K (.v (.str s)) S)) H n = some r := h
 unfold tailD at h
 split at h
 ·rename_i bd m ey
  split at h
  ·rename_i cs eb
   obtain ⟨g, h⟩ := gd_some h
   obtain ⟨ns, hn, h⟩ := strM_some h
   have hc : clOf E esc o S = ⟨some bd, none, false, false, none⟩ := by simp only [clOf, ho, ey]
   refine ⟨_, [], H, by rw [hc]; exact h, fun _ => rfl, fun K' S2 H2 hev hB hH _ => ?_⟩
   simp only [opD, ho, hb, hev x hx, strD, tailD, ey]
   rw [hc] at hB ⊢
   have hBB := hB bd (.inl rfl)
   rw [eb] at hBB
   simp only [hBB]
   rw [gd_true g, strM_eq hn]; rfl
  ·exact (stk_some h).elim
 ·rename_i s2 ey
  obtain ⟨vs, h5, h6⟩ := rdS_eq h
  obtain ⟨g, h5⟩ := gd_some h5
  obtain ⟨ns, hn, h5⟩ := strM_some h5
  have hc : clOf E esc o S = ⟨none, none, true, false, none⟩ := by simp only [clOf, ho, ey]
  refine ⟨_, [], H, by rw [hc]; exact h5, fun _ => rfl, fun K' S2 H2 hev hB hH _ => ?_⟩
  simp only [opD, ho, hb, hev x hx, strD, tailD, ey]
  rw [hc] at hH ⊢
  rw [hH (.inl rfl), h6, gd_true g, strM_eq hn]; rfl
 ·exact (stk_some h).elim
theorem lkM_eq {α : Type} {b : Nat} {s : ByteArray} {es : List (HV × HV)} {q : Option HV} (hg : H.get b = .spc (.map es)) (hq : lkS es s = some q) (f : Option HV → M α) : lkM b s f H n = f q H n := by unfold lkM; rw [hg]; simp only [hq]
theorem puM_eq {α : Type} {b : Nat} {s : ByteArray} {v : HV} {es es' : List (HV × HV)} (hg : H.get b = .spc (.map es)) (hq : puS es s v = some es') (m : M α) : puM b s v m H n = m (H.set b (.spc (.map es'))) n := by unfold puM; rw [hg]; simp only [hq]
theorem did_spc {α : Type} {K : SV → St → M α} {r : α × Heap} (h : spcD E P o S K H n = some r) : Did E P esc o S H n K r := by
 replace h : app (spcD E P o S K) H n = some r := h
 unfold spcD at h
 split at h
 case h_1 t ho =>
  have hc : clOf E esc o S = ⟨none, none, true, true, none⟩ := by simp only [clOf, ho]
  refine ⟨_, [], _, by rw [hc]; exact h, fun hw => (by rw [hc] at hw; cases hw), fun K' S2 H2 hev _ hH _ => ?_⟩
  simp only [opD, ho, spcD]
  rw [hc] at hH ⊢
  rw [hH (.inl rfl)]
  rfl
 case h_2 t m k ok ho =>
  have hm : m ∈ o.op.operands.toList := by rw [ho]; simp [Op.operands]
  have hk : k ∈ o.op.operands.toList := by rw [ho]; simp [Op.operands]
  have hc : clOf E esc o S = ⟨none, none, true, true, none⟩ := by simp only [clOf, ho]
  split at h
  ·rename_i kt et b s hu em ek
   split at h
   ·rename_i z hkt hz
    obtain ⟨b, rfl, h⟩ := mpP_some h
    obtain ⟨es, q, hg, hq, h⟩ := lkM_some h
    cases ok with
    | true =>
     refine ⟨_, [], H, by rw [hc]; exact Sh1.d_some h, fun _ => rfl, fun K' S2 H2 hev _ hH _ => ?_⟩
     simp only [opD, ho, spcD, hev m hm, hev k hk, hu, em, ek, hkt, hz, mpP]
     rw [hc] at hH ⊢
     rw [hH (.inl rfl), lkM_eq hg hq]
     exact Sh1.d_eq h _ _
    | false =>
     refine ⟨_, [], H, by rw [hc]; exact Sh1.d_some h, fun _ => rfl, fun K' S2 H2 hev _ hH _ => ?_⟩
     simp only [opD, ho, spcD, hev m hm, hev k hk, hu, em, ek, hkt, hz, mpP]
     rw [hc] at hH ⊢
     rw [hH (.inl rfl), lkM_eq hg hq]
     exact Sh1.d_eq h _ _
   ·exact (stk_some h).elim
  ·exact (stk_some h).elim
 case h_3 t m k x ho =>
  have hm : m ∈ o.op.operands.toList := by rw [ho]; simp [Op.operands]
  have hk : k ∈ o.op.operands.toList := by rw [ho]; simp [Op.operands]
  have hx : x ∈ o.op.operands.toList := by rw [ho]; simp [Op.operands]
  have hc : clOf E esc o S = ⟨none, none, true, true, none⟩ := by simp only [clOf, ho]
  split at h
  ·rename_i kt et b s hv hu em ek ex
   split at h
   ·rename_i hkt
    obtain ⟨b, rfl, h⟩ := mpP_some h
    obtain ⟨es, es', hg, hq, h⟩ := puM_some h
    refine ⟨_, [], _, by rw [hc]; exact h, fun hw => (by rw [hc] at hw; cases hw), fun K' S2 H2 hev _ hH _ => ?_⟩
    simp only [opD, ho, spcD, hev m hm, hev k hk, hev x hx, hu, em, ek, ex, hkt, mpP]
    rw [hc] at hH ⊢
    rw [hH (.inl rfl), puM_eq hg hq]
    rfl
   ·exact (stk_some h).elim
  ·exact (stk_some h).elim
 case h_4 t x ho =>
  have hx : x ∈ o.op.operands.toList := by rw [ho]; simp [Op.operands]
  have hc : clOf E esc o S = ⟨none, none, true, true, none⟩ := by simp only [clOf, ho]
  split at h
  ·rename_i s hu ex
   refine ⟨_, [], _, by rw [hc]; exact h, fun hw => (by rw [hc] at hw; cases hw), fun K' S2 H2 hev _ hH _ => ?_⟩
   simp only [opD, ho, spcD, hev x hx, hu, ex]
   rw [hc] at hH ⊢
   rw [hH (.inl rfl)]
   rfl
  ·exact (stk_some h).elim
 case h_5 x ho =>
  have hx : x ∈ o.op.operands.toList := by rw [ho]; simp [Op.operands]
  have hc : clOf E esc o S = ⟨none, none, true, true, none⟩ := by simp only [clOf, ho]
  split at h
  ·rename_i b ex
   obtain ⟨s, pos, hg, hcs⟩ := nxM_some h
   rcases hcs with ⟨hlt, h⟩ | ⟨hge, h⟩
   ·refine ⟨_, [], _, by rw [hc]; exact h, fun hw => (by rw [hc] at hw; cases hw), fun K' S2 H2 hev _ hH _ => ?_⟩
    simp only [opD, ho, spcD, hev x hx, ex]
    rw [hc] at hH ⊢
    rw [hH (.inl rfl)]
    unfold nxM
    rw [hg]
    simp only [decide_eq_true hlt]
    rfl
   ·refine ⟨_, [], _, by rw [hc]; exact h, fun _ => rfl, fun K' S2 H2 hev _ hH _ => ?_⟩
    simp only [opD, ho, spcD, hev x hx, ex]
    rw [hc] at hH ⊢
    rw [hH (.inl rfl)]
    unfold nxM
    rw [hg]
    simp only [decide_eq_false hge]
    rfl
  ·exact (stk_some h).elim
 case h_6 => exact (stk_some h).elim
theorem usM_eq {α : Type} {e : Nat} {p : Option (Nat × Nat)} {k : Int} {f : ByteArray → M α} {r : α × Heap} (h : usM e p k f H n = some r) : ∃ s H', f s H' n = some r ∧ ∀ {β : Type} (f' : ByteArray → M β), usM e p k f' H n = f' s H' n := by
 rcases usM_some h with ⟨rfl, h⟩ | ⟨h1, h2, b, cs, l, rfl, h3, h4, h5, h6, h⟩
 ·exact ⟨_, _, h, fun f' => rfl⟩
 ·refine ⟨_, _, h, fun f' => ?_⟩
  have hk : decide (k = 0) = false := decide_eq_false (by omega)
  unfold usM
  simp only [hk]
  rw [gd_true (by simp [h1, h2])]
  simp only [mP]
  rw [gd_true (by simp)]
  unfold tyM
  rw [gd_true (by simp [h3])]
  simp only [h4, h5]
  exact gd_true (by simp [h6]) _ _
theorem op_does {α : Type} {K : SV → St → M α} {r : α × Heap} (h : opD E P esc o S K H n = some r) : Did E P esc o S H n K r := by
 have h0 := h
 replace h : app (opD E P esc o S K) H n = some r := h
 unfold opD at h
 simp only at h
 split at h
 case h_1 x ho =>
  have hx : x ∈ o.op.operands.toList := by rw [ho]; simp [Op.operands]
  exact did_pure (fun K' S2 H2 he => by simp only [opD, ho, he x hx]) (by simp only [clOf, ho]; rfl) h
 case h_2 x ho =>
  have hx : x ∈ o.op.operands.toList := by rw [ho]; simp [Op.operands]
  exact did_pure (fun K' S2 H2 he => by simp only [opD, ho, he x hx]) (by simp only [clOf, ho]; rfl) h
 case h_3 c x y ho =>
  have hc : c ∈ o.op.operands.toList := by rw [ho]; simp [Op.operands]
  have hx : x ∈ o.op.operands.toList := by rw [ho]; simp [Op.operands]
  have hy : y ∈ o.op.operands.toList := by rw [ho]; simp [Op.operands]
  have hcl : clOf E esc o S = Cl.no := by simp only [clOf, ho]; rfl
  split at h
  ·rename_i b ec
   split at h
   ·rename_i u v eu ev
    exact did_pure (fun K' S2 H2 he => by simp only [opD, ho, he c hc, he x hx, he y hy, ec, eu, ev]) hcl h
   ·rename_i hne
    cases b
    ·refine did_pure (sv := S.ev E y) (fun K' S2 H2 he => ?_) hcl h
     simp only [opD, ho, he c hc, he x hx, he y hy, ec]
     rfl
    ·refine did_pure (sv := S.ev E x) (fun K' S2 H2 he => ?_) hcl h
     simp only [opD, ho, he c hc, he x hx, he y hy, ec]
     rfl
  ·exact (stk_some h).elim
 case h_4 t x ho => exact did_load ho h
 case h_5 t x y ho => exact did_store ho h
 case h_6 t ho =>
  split at h
  ·rename_i cs hz
   exact did_new h (fun d hd => by simp only [clOf, ho, hd]; rfl) (fun K' S2 H2 _ => by simp only [opD, ho, hz])
  ·exact (stk_some h).elim
 case h_7 t x ho =>
  have hx : x ∈ o.op.operands.toList := by rw [ho]; simp [Op.operands]
  split at h
  ·rename_i hv ex
   obtain ⟨g, h⟩ := nt_some h
   exact did_new h (fun d hd => by simp only [clOf, ho, hd]; rfl) (fun K' S2 H2 he => by simp only [opD, ho, he x hx, ex]; exact nt_eq g _ _)
  ·exact (stk_some h).elim
 case h_8 t ps ho =>
  have hps : ∀ (S2 : St), (∀ x ∈ o.op.operands.toList, S2.ev E x = S.ev E x) → partsD E S2 ps.toList = partsD E S ps.toList := by
   intro S2 he
   have : ∀ (l : List (Nat × Operand)), (∀ p ∈ l, S2.ev E p.2 = S.ev E p.2) → partsD E S2 l = partsD E S l := by
    intro l
    induction l with
    | nil => intro _; rfl
    | cons p l ih =>
     intro hl
     obtain ⟨i, x⟩ := p
     simp only [partsD]
     rw [hl (i, x) List.mem_cons_self, ih fun q hq => hl q (List.mem_cons_of_mem _ hq)]
   refine this ps.toList fun p hp => he p.2 ?_
   rw [ho]; simp only [Op.operands]
   exact List.mem_map.2 ⟨p, hp, rfl⟩
  have hcl : clOf E esc o S = Cl.no := by simp only [clOf, ho]; rfl
  split at h
  ·rename_i fs z l hu hz hp
   split at h
   ·rename_i cs hall hf
    obtain ⟨hlens, h⟩ := gdLens_some h
    exact did_pure (fun K' S2 H2 he => by simp only [opD, ho, hu, hz, hps S2 he, hp, hall, hf]; exact gdLens_eq hlens) hcl h
   ·exact (stk_some h).elim
  ·rename_i m e z l hu hz hp
   split at h
   ·rename_i cs hie hf
    obtain ⟨hlens, h⟩ := gdLens_some h
    exact did_pure (fun K' S2 H2 he => by simp only [opD, ho, hu, hz, hps S2 he, hp, hie, hf]; exact gdLens_eq hlens) hcl h
   ·exact (stk_some h).elim
  ·exact (stk_some h).elim
 case h_9 t m ps ho => exact did_build ho h0
 case h_10 x ho =>
  have hx : x ∈ o.op.operands.toList := by rw [ho]; simp [Op.operands]
  have hcl : clOf E esc o S = Cl.no := by simp only [clOf, ho]; rfl
  split at h
  ·rename_i d off ex
   exact did_pure (fun K' S2 H2 he => by simp only [opD, ho, he x hx, ex]) hcl h
  ·rename_i p ex
   obtain ⟨b, oo, hp, h⟩ := mP_some h
   exact did_pure (fun K' S2 H2 he => by simp only [opD, ho, he x hx, ex]; rw [mP_eq hp]) hcl h
  ·exact (stk_some h).elim
 case h_11 t x f ho =>
  have hx : x ∈ o.op.operands.toList := by rw [ho]; simp [Op.operands]
  have hcl : clOf E esc o S = Cl.no := by simp only [clOf, ho]; rfl
  split at h
  ·rename_i fs hu
   split at h
   ·rename_i fd hf
    split at h
    ·rename_i d off hb ex
     exact did_pure (fun K' S2 H2 he => by simp only [opD, ho, he x hx, hu, hf, hb, ex]) hcl h
    ·rename_i p hb ex
     obtain ⟨b, oo, hp, h⟩ := mP_some h
     exact did_pure (fun K' S2 H2 he => by simp only [opD, ho, he x hx, hu, hf, hb, ex]; rw [mP_eq hp]) hcl h
    ·exact (stk_some h).elim
   ·exact (stk_some h).elim
  ·exact (stk_some h).elim
 case h_12 t x f ho =>
  have hx : x ∈ o.op.operands.toList := by rw [ho]; simp [Op.operands]
  have hcl : clOf E esc o S = Cl.no := by simp only [clOf, ho]; rfl
  split at h
  ·rename_i fs cs hu ex
   split at h
   ·rename_i fd hf
    obtain ⟨hv, h1, h2⟩ := partA_eq h
    exact did_pure (fun K' S2 H2 he => by simp only [opD, ho, he x hx, hu, hf, ex]; exact h2 _ _) hcl h1
   ·exact (stk_some h).elim
  ·exact (stk_some h).elim
 case h_13 t x i ho =>
  have hx : x ∈ o.op.operands.toList := by rw [ho]; simp [Op.operands]
  have hi : i ∈ o.op.operands.toList := by rw [ho]; simp [Op.operands]
  obtain ⟨sv, h1, h2⟩ := goes_idx t _ _ h
  exact did_pure (fun K' S2 H2 he => by simp only [opD, ho, he x hx, he i hi]; exact h2 K' S2 H2) (by simp only [clOf, ho]; rfl) h1
 case h_14 t x i ho =>
  have hx : x ∈ o.op.operands.toList := by rw [ho]; simp [Op.operands]
  have hi : i ∈ o.op.operands.toList := by rw [ho]; simp [Op.operands]
  have hcl : clOf E esc o S = Cl.no := by simp only [clOf, ho]; rfl
  split at h
  ·rename_i m e cs k iv hu ex ei
   obtain ⟨g1, h⟩ := gd_some h
   obtain ⟨g2, h⟩ := gd_some h
   obtain ⟨hv, h1, h2⟩ := partA_eq h
   exact did_pure (fun K' S2 H2 he => by simp only [opD, ho, he x hx, he i hi, hu, ex, ei]; rw [gd_true g1, gd_true g2]; exact h2 _ _) hcl h1
  ·rename_i s k iv hu ex ei
   obtain ⟨g1, h⟩ := gd_some h
   obtain ⟨g2, h⟩ := gd_some h
   exact did_pure (fun K' S2 H2 he => by simp only [opD, ho, he x hx, he i hi, hu, ex, ei]; rw [gd_true g1, gd_true g2]) hcl h
  ·exact (stk_some h).elim
 case h_15 op t x y u ho =>
  have hx : x ∈ o.op.operands.toList := by rw [ho]; simp [Op.operands]
  have hy : y ∈ o.op.operands.toList := by rw [ho]; simp [Op.operands]
  obtain ⟨sv, h1, h2⟩ := goes_if op t _ _ _ h
  exact did_pure (fun K' S2 H2 he => by simp only [opD, ho, he x hx, he y hy]; exact h2 K' S2 H2) (by simp only [clOf, ho]; rfl) h1
 case h_16 op t x ho =>
  have hx : x ∈ o.op.operands.toList := by rw [ho]; simp [Op.operands]
  obtain ⟨sv, h1, h2⟩ := goes_un op _ h
  exact did_pure (fun K' S2 H2 he => by simp only [opD, ho, he x hx]; exact h2 K' S2 H2) (by simp only [clOf, ho]; rfl) h1
 case h_17 s d x ho =>
  have hx : x ∈ o.op.operands.toList := by rw [ho]; simp [Op.operands]
  split at h
  ·rename_i hb; exact did_str ho hb h
  ·rename_i hb
   split at h
   ·rename_i e hd
    replace h : app (bytD e (S.ev E x) S K) H n = some r := h
    unfold bytD at h
    split at h
    ·rename_i b ex
     have hc : clOf E esc o S = ⟨none, none, true, true, none⟩ := by simp only [clOf, ho, ex]
     refine ⟨_, [], _, by rw [hc]; exact h, fun hw => (by rw [hc] at hw; cases hw), fun K' S2 H2 hev _ hH _ => ?_⟩
     simp only [opD, ho, hb, hd, bytD, hev x hx, ex]
     rw [hc] at hH ⊢
     rw [hH (.inl rfl)]
     rfl
    ·exact (stk_some h).elim
   ·rename_i hd
    obtain ⟨sv, h1, h2⟩ := goes_conv s d _ h
    by_cases hs : ∃ q, S.ev E x = .v (.str q)
    ·obtain ⟨q, ex⟩ := hs
     have hc : clOf E esc o S = ⟨none, none, true, true, none⟩ := by simp only [clOf, ho, ex]
     refine ⟨sv, [], H, by rw [hc]; exact h1, fun _ => rfl, fun K' S2 H2 hev _ hH _ => ?_⟩
     simp only [opD, ho, hb, hd, hev x hx]
     rw [hc] at hH ⊢
     rw [hH (.inl rfl)]
     exact h2 K' S2 H
    ·have hcl : clOf E esc o S = Cl.no := by
      replace h : app (convD P s d (S.ev E x) S K) H n = some r := h
      unfold convD at h
      split at h
      ·rename_i va ex
       split at h
       ·simp only [clOf, ho, ex]; rfl
       ·exact absurd ⟨_, ex⟩ hs
       ·exact (stk_some h).elim
      ·exact (stk_some h).elim
     exact did_pure (fun K' S2 H2 he => by simp only [opD, ho, hb, hd, he x hx]; exact h2 K' S2 H2) hcl h1
 case h_18 t l c ho => exact did_mk ho h
 case h_19 t x l hh m ho =>
  have hx : x ∈ o.op.operands.toList := by rw [ho]; simp [Op.operands]
  split at h
  ·exact (stk_some h).elim
  ·rename_i hne
   obtain ⟨sv, h1, h2⟩ := goes_slc t _ _ _ _ h
   refine did_pure (fun K' S2 H2 he => ?_) (by simp only [clOf, ho]; rfl) h1
   have e1 : l.map (S2.ev E) = l.map (S.ev E) := by cases l with | none => rfl | some q => simp [he q (by rw [ho]; simp [Op.operands])]
   have e2 : hh.map (S2.ev E) = hh.map (S.ev E) := by cases hh with | none => rfl | some q => simp [he q (by rw [ho]; simp [Op.operands])]
   have e3 : m.map (S2.ev E) = m.map (S.ev E) := by cases m with | none => rfl | some q => simp [he q (by rw [ho]; simp [Op.operands])]
   simp only [opD, ho, he x hx, e1, e2, e3]
   exact h2 K' S2 H2
 case h_20 f x y ho =>
  split at h
  ·rename_i ea eb e1 e2
   refine did_pure (fun K' S2 H2 he => ?_) (by simp only [clOf, ho]; rfl) h
   have q1 : S2.evs E x.toList = S.evs E x.toList := evs_eq fun z hz => he z (by rw [ho]; simp [Op.operands]; exact .inl (by simpa using hz))
   have q2 : S2.evs E y.toList = S.evs E y.toList := evs_eq fun z hz => he z (by rw [ho]; simp [Op.operands]; exact .inr (by simpa using hz))
   simp only [opD, ho, q1, q2, e1, e2]
  ·exact (stk_some h).elim
 case h_21 x i ho =>
  have hx : x ∈ o.op.operands.toList := by rw [ho]; simp [Op.operands]
  split at h
  ·rename_i vs ex
   split at h
   ·rename_i v hv
    exact did_pure (fun K' S2 H2 he => by simp only [opD, ho, he x hx, ex, hv]) (by simp only [clOf, ho]; rfl) h
   ·exact (stk_some h).elim
  ·exact (stk_some h).elim
 case h_22 c ho =>
  split at h
  ·rename_i hc
   have hcl : clOf E esc o S = Cl.no := by simp only [clOf, ho, hc]; rfl
   split at h
   ·rename_i t x h0 h1
    have hx : x ∈ o.op.operands.toList := by rw [ho]; simp only [Op.operands, Call.operands, hc]; simpa using Array.mem_of_getElem? h1
    obtain ⟨sv, q1, q2⟩ := goes_len t _ h
    exact did_pure (fun K' S2 H2 he => by simp only [opD, ho, hc, h0, h1, he x hx]; exact q2 K' S2 H2) hcl q1
   ·exact (stk_some h).elim
  ·rename_i hc
   split at h
   ·rename_i t t' s x h0 h1 h2 h3
    split at h
    ·rename_i hb; exact did_app ho hc h0 h1 h2 h3 hb h
    ·rename_i hn
     split at h
     ·rename_i hb; exact did_appS ho hc h0 h1 h2 h3 hn hb h
     ·rename_i hn2
      split at h
      ·rename_i hb; exact did_appZ ho hc h0 h1 h2 h3 hn hn2 hb h
      ·exact (stk_some h).elim
   ·exact (stk_some h).elim
  ·rename_i hc
   have hcl : clOf E esc o S = Cl.no := by simp only [clOf, ho, hc]; rfl
   split at h
   ·rename_i x y h0 h1 h2
    have hx : x ∈ o.op.operands.toList := by rw [ho]; simp only [Op.operands, Call.operands, hc]; simpa using Array.mem_of_getElem? h0
    have hy : y ∈ o.op.operands.toList := by rw [ho]; simp only [Op.operands, Call.operands, hc]; simpa using Array.mem_of_getElem? h1
    split at h
    ·rename_i k u k' v ex ey
     obtain ⟨g, h⟩ := gd_some h
     exact did_pure (fun K' S2 H2 he => by simp only [opD, ho, hc, h0, h1, h2, he x hx, he y hy, ex, ey]; rw [gd_true g]) hcl h
    ·exact (stk_some h).elim
   ·exact (stk_some h).elim
  ·rename_i hc
   have hcl : clOf E esc o S = Cl.no := by simp only [clOf, ho, hc]; rfl
   split at h
   ·rename_i x y h0 h1 h2
    have hx : x ∈ o.op.operands.toList := by rw [ho]; simp only [Op.operands, Call.operands, hc]; simpa using Array.mem_of_getElem? h0
    have hy : y ∈ o.op.operands.toList := by rw [ho]; simp only [Op.operands, Call.operands, hc]; simpa using Array.mem_of_getElem? h1
    split at h
    ·rename_i k u k' v ex ey
     obtain ⟨g, h⟩ := gd_some h
     exact did_pure (fun K' S2 H2 he => by simp only [opD, ho, hc, h0, h1, h2, he x hx, he y hy, ex, ey]; rw [gd_true g]) hcl h
    ·exact (stk_some h).elim
   ·exact (stk_some h).elim
  ·rename_i hc
   have hcl : clOf E esc o S = Cl.no := by simp only [clOf, ho, hc]; rfl
   split at h
   ·rename_i x h0 h1
    have hx : x ∈ o.op.operands.toList := by rw [ho]; simp only [Op.operands, Call.operands, hc]; simpa using Array.mem_of_getElem? h0
    split at h
    ·rename_i s ex
     obtain ⟨g, h⟩ := gd_some h
     exact did_pure (fun K' S2 H2 he => by simp only [opD, ho, hc, h0, h1, he x hx, ex]; rw [gd_true g]) hcl h
    ·exact (stk_some h).elim
   ·exact (stk_some h).elim
  ·rename_i hc
   have hcl : clOf E esc o S = Cl.no := by simp only [clOf, ho, hc]; rfl
   split at h
   ·rename_i t x h0 h1 h2
    have hx : x ∈ o.op.operands.toList := by rw [ho]; simp only [Op.operands, Call.operands, hc]; simpa using Array.mem_of_getElem? h1
    split at h
    ·rename_i s hu ex
     obtain ⟨g, h⟩ := gd_some h
     exact did_pure (fun K' S2 H2 he => by simp only [opD, ho, hc, h0, h1, h2, he x hx, hu, ex]; rw [gd_true g]) hcl h
    ·exact (stk_some h).elim
   ·exact (stk_some h).elim
  ·rename_i hc
   have hcl : clOf E esc o S = ⟨none, none, true, true, none⟩ := by simp only [clOf, ho, hc]
   split at h
   ·rename_i t x y h0 h1 h2 h3
    have hx : x ∈ o.op.operands.toList := by rw [ho]; simp only [Op.operands, Call.operands, hc]; simpa using Array.mem_of_getElem? h1
    have hy : y ∈ o.op.operands.toList := by rw [ho]; simp only [Op.operands, Call.operands, hc]; simpa using Array.mem_of_getElem? h2
    split at h
    ·rename_i e p k hu ex ey
     split at h
     ·rename_i hb
      obtain ⟨s, H', q1, q2⟩ := usM_eq h
      refine ⟨_, [], H', by rw [hcl]; exact q1, fun hw => (by rw [hcl] at hw; cases hw), fun K' S2 H2 hev _ hH _ => ?_⟩
      simp only [opD, ho, hc, h0, h1, h2, h3, hev x hx, hev y hy, hu, ex, ey, hb]
      rw [hcl] at hH ⊢
      rw [hH (.inl rfl), q2]
      rfl
     ·exact (stk_some h).elim
    ·exact (stk_some h).elim
   ·exact (stk_some h).elim
  ·rename_i f hc; exact did_call ho hc h
  ·exact (stk_some h).elim
 case h_23 => exact did_spc h
end
set_option linter.unusedSectionVars false
variable [Sites]
structure TS where
 F : Fr
 B : Bx
 H : Heap
 sv : SV
 c : Cl
 wc : List HV
 x : Bool
section
variable {E : Env} {P : Program} {esc : Nat → Bool} {n : Nat}
def dstOf (ops : List Oper) (k : Nat) : Option Nat := (ops[k]?).bind (·.dst)
structure Good (E : Env) (P : Program) (esc : Nat → Bool) (n : Nat) (all : Array Oper) (o : Oper) (u v : TS) : Prop where
 f : ∀ t, v.F.get t = if o.dst = some t then u.sv else u.F.get t
 g0 : o.guard = none → u.x = true
 g1 : ∀ j want, o.guard = some (j, want) → ∃ g, (all[j]?).bind (·.dst) = some g ∧ ((∃ b, u.F.get g = .v (.bool b) ∧ u.x = (b == want)) ∨ (u.F.get g = UD ∧ u.x = false))
 no : u.x = false → u.sv = UD ∧ v.H = u.H ∧ u.c = Cl.no
 yes : u.x = true → u.c = clOf E esc o ⟨u.F, u.B⟩ ∧ Does E P esc o ⟨u.F, u.B⟩ u.H n u.sv u.wc v.H
 b : v.B = wrB u.c.wB u.wc u.B
theorem put_get (S : St) (d : Option Nat) (s : SV) (t : Nat) : (S.put d s).F.get t = if d = some t then s else S.F.get t := by
 cases d with
 | none => simp [St.put]
 | some d =>
  simp only [St.put, Fr.get_set, Option.some.injEq]
  by_cases h : t = d
  ·subst h; simp
  ·rw [if_neg h, if_neg (Ne.symm h)]
theorem put_B (S : St) (d : Option Nat) (s : SV) : (S.put d s).B = S.B := by cases d <;> rfl
def Tr {α : Type} (E : Env) (P : Program) (esc : Nat → Bool) (n : Nat) (all : Array Oper) (sn : Bool) (K : St → List Cl → List Heap → M α) (r : α × Heap) (l : List Oper) (cs : List Cl) (hs : List Heap) (S : St) (H : Heap) : Prop :=
  ∃ T : Nat → TS, (∀ t, (T 0).F.get t = S.F.get t) ∧ (T 0).B = S.B ∧ (T 0).H = H ∧ (∀ k o, l[k]? = some o → Good E P esc n all o (T k) (T (k + 1))) ∧
   ∃ F' hs', (∀ t, F'.get t = (T l.length).F.get t) ∧ (sn = true → hs'.length = l.length + 1 + hs.length ∧ (∀ j, j < hs.length → hs'[l.length + 1 + j]? = hs[j]?) ∧ ∀ k, k ≤ l.length → hs'[l.length - k]? = some (T k).H) ∧ K ⟨F', (T l.length).B⟩ (cs ++ (List.range l.length).map fun k => (T k).c) hs' (T l.length).H n = some r
def snH (sn : Bool) (H : Heap) : Heap := match sn with
 | true => H
 | false => ⟨0, fun _ => .dead, fun _ => none⟩
theorem snp_some {α : Type} {sn : Bool} {f : Heap → M α} {H : Heap} {r : α × Heap} (h : snp sn f H n = some r) : app (f (snH sn H)) H n = some r := by
 cases sn <;> exact h
theorem trace {α : Type} {all : Array Oper} {sn : Bool} {K : St → List Cl → List Heap → M α} {r : α × Heap} : ∀ (l : List Oper) (cs : List Cl) (hs : List Heap) (S : St) (H : Heap), denOpsT E P esc all sn l cs hs S K H n = some r → Tr E P esc n all sn K r l cs hs S H
 | [], cs, hs, S, H, h => by
  have h5 := snp_some h
  refine ⟨fun _ => ⟨S.F, S.B, H, .un, Cl.no, [], true⟩, fun _ => rfl, rfl, rfl, fun k o e => by simp at e, S.F, snH sn H :: hs, fun _ => rfl, fun e => ⟨by simp; omega, fun j _ => by simp only [List.length_nil, Nat.zero_add]; rw [Nat.add_comm 1 j]; rfl, fun k _ => by subst e; simp [snH]⟩, by simpa [app] using h5⟩
 | o :: rest, cs, hs, S, H, h => by
  have step : ∀ (S1 : St) (sv : SV) (wc : List HV) (H' : Heap) (c : Cl) (x : Bool), (∀ t, S1.F.get t = S.F.get t) → S1.B = S.B →
    (o.guard = none → x = true) → (∀ j want, o.guard = some (j, want) → ∃ g, (all[j]?).bind (·.dst) = some g ∧ ((∃ b, S1.F.get g = .v (.bool b) ∧ x = (b == want)) ∨ (S1.F.get g = UD ∧ x = false))) →
    (x = false → sv = UD ∧ H' = H ∧ c = Cl.no) → (x = true → c = clOf E esc o S1 ∧ Does E P esc o S1 H n sv wc H') →
    denOpsT E P esc all sn rest (cs ++ [c]) (snH sn H :: hs) ((⟨S1.F, wrB c.wB wc S1.B⟩ : St).put o.dst sv) K H' n = some r →
    Tr E P esc n all sn K r (o :: rest) cs hs S H := by
   intro S1 sv wc H' c x hF hB hg0 hg1 hno hyes hk
   obtain ⟨T, h1, h2, h3, h4, F', hs', h5, h7, h6⟩ := trace rest _ _ _ _ hk
   refine ⟨fun k => match k with | 0 => ⟨S1.F, S1.B, H, sv, c, wc, x⟩ | k + 1 => T k, hF, hB, rfl, ?_, F', hs', h5, fun e => ⟨by have := (h7 e).1; simp only [List.length_cons] at this ⊢; omega, fun j hj => ?_, fun k hk => ?_⟩, ?_⟩
   ·intro k o' e
    cases k with
    | zero =>
     simp only [List.getElem?_cons_zero, Option.some.injEq] at e
     subst e
     refine ⟨fun t => ?_, hg0, hg1, fun hx => ?_, fun hx => ?_, ?_⟩
     ·simp only; rw [h1, put_get]
     ·obtain ⟨q1, q3, q4⟩ := hno hx
      refine ⟨q1, ?_, q4⟩
      simp only; rw [h3]; exact q3
     ·obtain ⟨q1, q2⟩ := hyes hx
      refine ⟨q1, ?_⟩
      simp only; rw [h3]; exact q2
     ·simp only; rw [h2, put_B]
    | succ k => exact h4 k o' (by simpa using e)
   ·have := (h7 e).2.1 (j + 1) (by simp; omega)
    rw [List.getElem?_cons_succ] at this
    rw [← this, List.length_cons]
    congr 1; omega
   ·cases k with
    | zero =>
     have := (h7 e).2.1 0 (by simp)
     rw [List.getElem?_cons_zero] at this
     rw [List.length_cons, Nat.sub_zero]
     subst e
     exact this
    | succ k =>
     have := (h7 e).2.2 k (by simpa using hk)
     rw [List.length_cons, Nat.add_sub_add_right]
     exact this
   ·simp only [List.length_cons, List.range_succ_eq_map, List.map_cons, List.map_map]
    rw [List.append_assoc, List.singleton_append] at h6
    exact h6
  replace h : app (denOpsT E P esc all sn (o :: rest) cs hs S K) H n = some r := h
  unfold denOpsT at h
  replace h := snp_some h
  split at h
  ·rename_i hg
   obtain ⟨sv, wc, H', k1, k2⟩ := op_does (E := E) (P := P) (esc := esc) h
   exact step S sv wc H' _ true (fun _ => rfl) rfl (fun _ => rfl) (fun j want e => by rw [hg] at e; cases e) (fun e => by cases e) (fun _ => ⟨rfl, k2⟩) k1
  ·rename_i j want hg
   split at h
   ·rename_i g hgt
    split at h
    ·rename_i c hc
     have hS1 : ∀ b, b = c → ∀ t, (S.put (some g) (.v (.bool b))).F.get t = S.F.get t := by
      intro b hb t
      rw [put_get]
      split
      ·rename_i e; cases e; rw [hc, hb]
      ·rfl
     have hgg2 : ∀ b, b = c → ∀ j' want', o.guard = some (j', want') → ∃ g', (all[j']?).bind (·.dst) = some g' ∧ ((∃ b', (S.put (some g) (.v (.bool b))).F.get g' = .v (.bool b') ∧ (b == want) = (b' == want')) ∨ ((S.put (some g) (.v (.bool b))).F.get g' = UD ∧ (b == want) = false)) := by
      intro b hb j' want' e
      rw [hg] at e; cases e
      exact ⟨g, hgt, .inl ⟨b, by rw [put_get]; simp, rfl⟩⟩
     have ex : ∀ b, b = c → b = want → app (opD E P esc o (S.put (some g) (.v (.bool b))) fun s S' => denOpsT E P esc all sn rest (cs ++ [clOf E esc o (S.put (some g) (.v (.bool b)))]) (snH sn H :: hs) (S'.put o.dst s) K) H n = some r → Tr E P esc n all sn K r (o :: rest) cs hs S H :=
      fun b hb hw h => by
       obtain ⟨sv, wc, H', k1, k2⟩ := op_does (E := E) (P := P) (esc := esc) h
       exact step (S.put (some g) (.v (.bool b))) sv wc H' _ (b == want) (hS1 b hb) (put_B _ _ _) (fun e => by rw [hg] at e; cases e) (hgg2 b hb) (fun e => by simp [hw] at e) (fun _ => ⟨rfl, k2⟩) k1
     have sk : ∀ b, b = c → b ≠ want → app (denOpsT E P esc all sn rest (cs ++ [Cl.no]) (snH sn H :: hs) ((S.put (some g) (.v (.bool b))).put o.dst UD) K) H n = some r → Tr E P esc n all sn K r (o :: rest) cs hs S H :=
      fun b hb hw h => 
       step (S.put (some g) (.v (.bool b))) UD [] H Cl.no (b == want) (hS1 b hb) (put_B _ _ _) (fun e => by rw [hg] at e; cases e) (hgg2 b hb) (fun _ => ⟨rfl, rfl, rfl⟩) (fun e => absurd (by simpa using e) hw) h
     cases c <;> cases want <;> simp only [app, cond_true, cond_false] at h
     ·exact ex false rfl rfl h
     ·exact sk false rfl (by simp) h
     ·exact sk true rfl (by simp) h
     ·exact ex true rfl rfl h
    ·rename_i hc
     exact step S UD [] H Cl.no false (fun _ => rfl) rfl (fun e => by rw [hg] at e; cases e) (fun j' want' e => by rw [hg] at e; cases e; exact ⟨g, hgt, .inr ⟨hc, rfl⟩⟩) (fun _ => ⟨rfl, rfl, rfl⟩) (fun e => by cases e) h
    ·exact (stk_some h).elim
   ·exact (stk_some h).elim
/-! ## what comes ahead -/
theorem edgeBits_spec {acc : List Nat} : ∀ {l : List Edge} {i : Nat}, Nat.testBit (edgeBits acc l) i = true → ∃ e ∈ l, Region.binds .any e = true ∧ (e.on = i ∨ Nat.testBit (acc.getD e.on 0) i = true)
 | [], i, h => by simp [edgeBits] at h
 | e :: l, i, h => by
  simp only [edgeBits] at h
  split at h
  ·rename_i hb
   have h' : (2 ^ e.on ||| acc.getD e.on 0 ||| edgeBits acc l).testBit i = true := h
   simp only [Nat.testBit_or, Bool.or_eq_true] at h'
   rcases h' with (h1 | h1) | h1
   ·exact ⟨e, List.mem_cons_self, hb, .inl (by simpa [Nat.testBit_two_pow] using h1)⟩
   ·exact ⟨e, List.mem_cons_self, hb, .inr h1⟩
   ·obtain ⟨e', h2, h3⟩ := edgeBits_spec h1
    exact ⟨e', List.mem_cons_of_mem _ h2, h3⟩
  ·obtain ⟨e', h2, h3⟩ := edgeBits_spec h
   exact ⟨e', List.mem_cons_of_mem _ h2, h3⟩
theorem ahead_spec : ∀ (l : List Oper) (acc : List Nat), (ahead l acc).length = acc.length + l.length ∧ (∀ k, k < acc.length → (ahead l acc)[k]? = acc[k]?) ∧
  ∀ k o, l[k]? = some o → ∃ acc', (∀ q, q < acc'.length → acc'[q]? = (ahead l acc)[q]?) ∧ (ahead l acc)[acc.length + k]? = some (edgeBits acc' o.after.toList)
 | [], acc => ⟨by simp [ahead], fun _ _ => rfl, fun k o e => by simp at e⟩
 | x :: l, acc => by
  obtain ⟨h1, h2, h3⟩ := ahead_spec l (acc ++ [edgeBits acc x.after.toList])
  simp only [List.length_append, List.length_cons, List.length_nil] at h1 h2 h3
  refine ⟨by simp only [ahead, List.length_cons]; omega, fun k hk => ?_, fun k o e => ?_⟩
  ·simp only [ahead]; rw [h2 k (by omega), List.getElem?_append_left hk]
  ·cases k with
   | zero =>
    simp only [List.getElem?_cons_zero, Option.some.injEq] at e
    subst e
    refine ⟨acc, fun q hq => ?_, ?_⟩
    ·simp only [ahead]; rw [h2 q (by omega), List.getElem?_append_left hq]
    ·simp only [ahead, Nat.add_zero]; rw [h2 _ (by omega)]; simp
   | succ k =>
    obtain ⟨acc', q1, q2⟩ := h3 k o (by simpa using e)
    refine ⟨acc', q1, ?_⟩
    simp only [ahead]; rw [show acc.length + (k + 1) = acc.length + (0 + 1) + k by omega]; exact q2
theorem ahead_mem {ops : List Oper} {L : Nat → Bool} (hL : ∀ k o, ops[k]? = some o → L k = true → ∀ e ∈ o.after.toList, Region.binds .any e = true → L e.on = true) :
  ∀ (j : Nat) (b : Nat), (ahead ops [])[j]? = some b → ∀ o, ops[j]? = some o → (∀ e ∈ o.after.toList, Region.binds .any e = true → L e.on = true ∧ e.on < j) →
   (∀ k o, k < j → ops[k]? = some o → ∀ e ∈ o.after.toList, Region.binds .any e = true → e.on < k) → ∀ i, Nat.testBit b i = true → L i = true := by
 intro j
 induction j using Nat.strongRecOn with
 | ind j ih =>
  intro b hb o ho hr hback i hi
  obtain ⟨hlen, _, h3⟩ := ahead_spec ops []
  obtain ⟨acc', q1, q2⟩ := h3 j o ho
  simp only [List.length_nil, Nat.zero_add] at q2 hlen
  rw [q2] at hb; cases hb
  obtain ⟨e, he, hbe, hor⟩ := edgeBits_spec hi
  obtain ⟨hLe, hlt⟩ := hr e he hbe
  rcases hor with rfl | hbit
  ·exact hLe
  ·rw [List.getD_eq_getElem?_getD] at hbit
   cases hg : acc'[e.on]? with
   | none => rw [hg] at hbit; simp at hbit
   | some b' =>
    rw [hg] at hbit
    have hq := (List.getElem?_eq_some_iff.1 hg).1
    have hb' : (ahead ops [])[e.on]? = some b' := by rw [← q1 _ hq]; exact hg
    have hlt' : e.on < ops.length := by
     have := (List.getElem?_eq_some_iff.1 hb').1; omega
    refine ih e.on hlt b' hb' ops[e.on] (List.getElem?_eq_getElem _) ?_ (fun k o hk => hback k o (by omega)) i hbit
    intro e' he' hbe'
    exact ⟨hL e.on _ (List.getElem?_eq_getElem hlt') hLe e' he' hbe', hback e.on _ hlt (List.getElem?_eq_getElem hlt') e' he' hbe'⟩
theorem edgesBack_spec {j : Nat} : ∀ {l : List Edge}, edgesBack j l = true → ∀ e ∈ l, Region.binds .any e = true → e.on < j
 | x :: l, h, e, he, hb => by
  simp only [edgesBack, Bool.and_eq_true] at h
  rcases List.mem_cons.1 he with rfl | he
  ·have h1 := h.1
   rw [hb] at h1
   simpa [Nat.blt_eq] using h1
  ·exact edgesBack_spec h.2 e he hb
theorem backOk_spec (l : List Oper) : ∀ {j : Nat}, backOk l j = true → ∀ k o, l[k]? = some o → ∀ e ∈ o.after.toList, Region.binds .any e = true → e.on < j + k := by
 induction l with
 | nil => intro j _ k o e; simp at e
 | cons x l ih =>
  intro j h k o e
  simp only [backOk, Bool.and_eq_true] at h
  cases k with
  | zero =>
   simp only [List.getElem?_cons_zero, Option.some.injEq] at e
   subst e
   exact edgesBack_spec h.1
  | succ k =>
   intro e' he' hb'
   have := ih h.2 k o (by simpa using e) e' he' hb'
   omega
theorem rowOk_spec {all : Array Oper} {y : Oper} {cy : Cl} {bits : Nat} : ∀ {xs : List Oper} {cs : List Cl} {i : Nat}, rowOk all y cy bits xs cs i = true → ∀ k x c, xs[k]? = some x → cs[k]? = some c → pairOk all x y c cy (i + k) bits = true
 | x :: xs, c :: cs, i, h, k, x', c', e1, e2 => by
  simp only [rowOk, Bool.and_eq_true] at h
  cases k with
  | zero =>
   simp only [List.getElem?_cons_zero, Option.some.injEq] at e1 e2
   subst e1; subst e2
   exact h.1
  | succ k =>
   rw [show i + (k + 1) = i + 1 + k by omega]
   exact rowOk_spec h.2 k x' c' (by simpa using e1) (by simpa using e2)
 | [], _, _, _, k, _, _, e1, _ => by simp at e1
 | _ :: _, [], _, _, k, _, _, _, e2 => by simp at e2
theorem orderOk_spec {all : Array Oper} {ops : List Oper} {cls : List Cl} {bits : List Nat} : ∀ {ys : List Oper} {cs : List Cl} {bs : List Nat} {j : Nat}, orderOk all ops cls bits ys cs bs j = true →
  ∀ k y c b, ys[k]? = some y → cs[k]? = some c → bs[k]? = some b → rowOk all y c b (ops.take (j + k)) (cls.take (j + k)) 0 = true
 | y :: ys, c :: cs, b :: bs, j, h, k, y', c', b', e1, e2, e3 => by
  simp only [orderOk, Bool.and_eq_true] at h
  cases k with
  | zero =>
   simp only [List.getElem?_cons_zero, Option.some.injEq] at e1 e2 e3
   subst e1; subst e2; subst e3
   exact h.1
  | succ k =>
   rw [show j + (k + 1) = j + 1 + k by omega]
   exact orderOk_spec h.2 k y' c' b' (by simpa using e1) (by simpa using e2) (by simpa using e3)
 | [], _, _, _, _, k, _, _, _, e1, _, _ => by simp at e1
 | _ :: _, [], _, _, _, k, _, _, _, _, e2, _ => by simp at e2
 | _ :: _, _ :: _, [], _, _, k, _, _, _, _, _, e3 => by simp at e3
/-! ## any order -/
def fL (ops : List Oper) (T : Nat → TS) (L : Nat → Bool) (t : Nat) : Nat → SV
 | 0 => (T 0).F.get t
 | k + 1 => if L k = true ∧ dstOf ops k = some t then (T k).sv else fL ops T L t k
def bL (T : Nat → TS) (L : Nat → Bool) : Nat → Bx
 | 0 => (T 0).B
 | k + 1 => if L k = true then wrB (T k).c.wB (T k).wc (bL T L k) else bL T L k
def hL (T : Nat → TS) (L : Nat → Bool) : Nat → Heap
 | 0 => (T 0).H
 | k + 1 => if L k = true ∧ (T k).c.wH = true then (T (k + 1)).H else hL T L k
theorem clash_spec {ops : Array Oper} {cls : List Cl} (hd : drawOk ops cls = true) (_hl : cls.length = ops.size) {L : Nat → Bool}
  (hL : ∀ k o, ops.toList[k]? = some o → L k = true → ∀ e ∈ o.after.toList, Region.binds .any e = true → L e.on = true)
  {i j : Nat} {x y : Oper} {cx cy : Cl} (hij : i < j) (hx : ops.toList[i]? = some x) (hy : ops.toList[j]? = some y) (hcx : cls[i]? = some cx) (hcy : cls[j]? = some cy)
  (hr : ∀ e ∈ y.after.toList, Region.binds .any e = true → L e.on = true) (hc : (Cl.clash cx cy || slotClash ops x y) = true) : L i = true := by
 simp only [drawOk, Bool.and_eq_true] at hd
 obtain ⟨hd0, hd1⟩ := hd
 have hback := backOk_spec _ hd0
 simp only [Nat.zero_add] at hback
 have hlen := (ahead_spec ops.toList []).1
 simp only [List.length_nil, Nat.zero_add] at hlen
 have hj : j < ops.toList.length := (List.getElem?_eq_some_iff.1 hy).1
 obtain ⟨b, hb⟩ : ∃ b, (ahead ops.toList [])[j]? = some b := ⟨_, List.getElem?_eq_getElem (by omega)⟩
 have h1 := orderOk_spec hd1 j y cy b hy hcy hb
 simp only [Nat.zero_add] at h1
 have h2 := rowOk_spec h1 i x cx (by rw [List.getElem?_take, if_pos hij]; exact hx) (by rw [List.getElem?_take, if_pos hij]; exact hcx)
 simp only [Nat.zero_add, pairOk, hc] at h2
 exact ahead_mem hL j b hb y hy (fun e he hbe => ⟨hr e he hbe, hback j y hy e he hbe⟩) (fun k o _ ho => hback k o ho) i h2
theorem slot_r {ops : Array Oper} {x y : Oper} {d : Nat} (h : x.dst = some d) (hm : d ∈ y.looksAt ops) : slotClash ops x y = true := by
 simp only [slotClash, h, (mem_iff _ _).2 hm, Bool.true_or]
theorem slot_l {ops : Array Oper} {x y : Oper} {d : Nat} (h : y.dst = some d) (hm : d ∈ x.looksAt ops) : slotClash ops x y = true := by
 simp only [slotClash, h, (mem_iff _ _).2 hm, Bool.or_true]
theorem slot_w {ops : Array Oper} {x y : Oper} {d : Nat} (h : x.dst = some d) (h' : y.dst = some d) : slotClash ops x y = true := by
 simp [slotClash, h, h']
section
variable {ops : Array Oper} {T : Nat → TS} {cls : List Cl} {L : Nat → Bool}
structure Ok (E : Env) (P : Program) (esc : Nat → Bool) (n : Nat) (ops : Array Oper) (T : Nat → TS) (cls : List Cl) (L : Nat → Bool) : Prop where
 good : ∀ k o, ops.toList[k]? = some o → Good E P esc n ops o (T k) (T (k + 1))
 chk : drawOk ops cls = true
 len : cls.length = ops.size
 cl : ∀ k, k < ops.size → cls[k]? = some (T k).c
 down : ∀ k o, ops.toList[k]? = some o → L k = true → ∀ e ∈ o.after.toList, Region.binds .any e = true → L e.on = true
 same : ∀ i, i < ops.size → ∀ b, (T i).c.fB = some b → ∀ bits, (ahead ops.toList [])[i]? = some bits → ∀ k, stW bits cls 0 0 ≤ k → k ≤ ops.size → (T k).H.get b = (T i).H.get b
theorem Ok.before (h : Ok E P esc n ops T cls L) {i k : Nat} {x y : Oper} (hki : k < i) (hx : ops.toList[k]? = some x) (hy : ops.toList[i]? = some y)
  (hr : ∀ e ∈ y.after.toList, Region.binds .any e = true → L e.on = true) (hc : (Cl.clash (T k).c (T i).c || slotClash ops x y) = true) : L k = true := by
 have h1 := (List.getElem?_eq_some_iff.1 hy).1
 simp only [Array.length_toList] at h1
 exact clash_spec h.chk h.len h.down hki hx hy (h.cl k (by omega)) (h.cl i h1) hr hc
theorem Ok.behind (h : Ok E P esc n ops T cls L) {i k : Nat} {x y : Oper} (hki : i < k) (hx : ops.toList[i]? = some x) (hy : ops.toList[k]? = some y) (hk : L k = true)
  (hc : (Cl.clash (T i).c (T k).c || slotClash ops x y) = true) : L i = true :=
 h.before hki hx hy (h.down k y hy hk) hc
theorem get_op {k : Nat} (hk : k < ops.size) : ∃ x, ops.toList[k]? = some x := ⟨_, List.getElem?_eq_getElem (by simpa using hk)⟩
theorem Ok.looks (h : Ok E P esc n ops T cls L) {i : Nat} {y : Oper} (hy : ops.toList[i]? = some y) (hi : L i = false)
    (hr : ∀ e ∈ y.after.toList, Region.binds .any e = true → L e.on = true) {t : Nat} (ht : t ∈ y.looksAt ops) : fL ops.toList T L t ops.size = (T i).F.get t := by
  have hin : i < ops.size := by simpa using (List.getElem?_eq_some_iff.1 hy).1
  have h1 : ∀ k, k ≤ i → fL ops.toList T L t k = (T k).F.get t := by
    intro k
    induction k with
    | zero => intro _; rfl
    | succ k ih =>
      intro hk
      obtain ⟨x, hx⟩ := get_op (ops := ops) (k := k) (by omega)
      have hg := (h.good k x hx).f t
      simp only [fL, dstOf, hx, Option.bind_some]
      rw [hg]
      by_cases hd : x.dst = some t
      · have : L k = true := h.before (by omega) hx hy hr (by rw [slot_r hd ht, Bool.or_true])
        rw [if_pos ⟨this, hd⟩, if_pos hd]
      · rw [if_neg (fun q => hd q.2), if_neg hd, ih (by omega)]
  have h2 : ∀ k, i ≤ k → k ≤ ops.size → fL ops.toList T L t k = (T i).F.get t := by
    intro k hk
    induction k with
    | zero => intro _; have : i = 0 := by omega
              subst this; rfl
    | succ k ih =>
      intro hk2
      by_cases he : i = k + 1
      · subst he; exact h1 _ (Nat.le_refl _)
      · obtain ⟨x, hx⟩ := get_op (ops := ops) (k := k) (by omega)
        simp only [fL, dstOf, hx, Option.bind_some]
        rw [if_neg, ih (by omega) (by omega)]
        rintro ⟨q1, q2⟩
        by_cases he2 : i = k
        · subst he2; rw [hi] at q1; cases q1
        · have := h.behind (i := i) (k := k) (by omega) hy hx q1 (by rw [slot_l q2 ht, Bool.or_true])
          rw [hi] at this; cases this
  exact h2 _ (by omega) (Nat.le_refl _)
theorem Ok.keepH (h : Ok E P esc n ops T cls L) {k : Nat} (hk : k < ops.size) (hw : (T k).c.wH = false) : (T (k + 1)).H = (T k).H := by
 obtain ⟨x, hx⟩ := get_op hk
 have hg := h.good k x hx
 cases hx' : (T k).x with
 | false => exact (hg.no hx').2.1
 | true =>
  obtain ⟨q1, q2⟩ := hg.yes hx'
  exact q2.1 (by rw [← q1]; exact hw)
theorem Ok.boxes (h : Ok E P esc n ops T cls L) {i : Nat} {y : Oper} (hy : ops.toList[i]? = some y) (hi : L i = false)
    (hr : ∀ e ∈ y.after.toList, Region.binds .any e = true → L e.on = true) {d : Nat} (hb : (T i).c.rB = some d ∨ (T i).c.wB = some d) : (bL T L ops.size).get d = (T i).B.get d := by
  have hin : i < ops.size := by simpa using (List.getElem?_eq_some_iff.1 hy).1
  have h1 : ∀ k, k ≤ i → (bL T L k).get d = (T k).B.get d := by
    intro k
    induction k with
    | zero => intro _; rfl
    | succ k ih =>
      intro hk
      obtain ⟨x, hx⟩ := get_op (ops := ops) (k := k) (by omega)
      have ih := ih (by omega)
      rw [(h.good k x hx).b, wrB_get]
      simp only [bL]
      by_cases hl : L k = true
      · rw [if_pos hl, wrB_get, ih]
      · rw [if_neg hl, ih]
        rw [if_neg]
        intro hd
        refine hl (h.before (by omega) hx hy hr ?_)
        rcases hb with hb | hb <;> simp [Cl.clash, hd, hb, bxc]
  have h2 : ∀ k, i ≤ k → k ≤ ops.size → (bL T L k).get d = (T i).B.get d := by
    intro k hk
    induction k with
    | zero => intro _; have : i = 0 := by omega
              subst this; rfl
    | succ k ih =>
      intro hk2
      by_cases he : i = k + 1
      · subst he; exact h1 _ (Nat.le_refl _)
      · obtain ⟨x, hx⟩ := get_op (ops := ops) (k := k) (by omega)
        have ih := ih (by omega) (by omega)
        simp only [bL]
        by_cases hl : L k = true
        · rw [if_pos hl, wrB_get, if_neg, ih]
          intro hd
          by_cases he2 : i = k
          · subst he2; rw [hi] at hl; cases hl
          · have := h.behind (i := i) (k := k) (by omega) hy hx hl (by rcases hb with hb | hb <;> simp [Cl.clash, hd, hb, bxc])
            rw [hi] at this; cases this
        · rw [if_neg hl, ih]
  exact h2 _ (by omega) (Nat.le_refl _)
theorem Ok.heap (h : Ok E P esc n ops T cls L) {i : Nat} {y : Oper} (hy : ops.toList[i]? = some y) (hi : L i = false)
    (hr : ∀ e ∈ y.after.toList, Region.binds .any e = true → L e.on = true) (hb : (T i).c.rH = true ∨ (T i).c.wH = true) : hL T L ops.size = (T i).H := by
  have hin : i < ops.size := by simpa using (List.getElem?_eq_some_iff.1 hy).1
  have hb' : ((T i).c.rH || (T i).c.wH) = true := by simpa using hb
  have h1 : ∀ k, k ≤ i → hL T L k = (T k).H := by
    intro k
    induction k with
    | zero => intro _; rfl
    | succ k ih =>
      intro hk
      obtain ⟨x, hx⟩ := get_op (ops := ops) (k := k) (by omega)
      simp only [hL]
      by_cases hd : (T k).c.wH = true
      · have : L k = true := h.before (by omega) hx hy hr (by simp [Cl.clash, hd, hb'])
        rw [if_pos ⟨this, hd⟩]
      · rw [if_neg (fun q => hd q.2), ih (by omega), h.keepH (by omega) (by simpa using hd)]
  have h2 : ∀ k, i ≤ k → k ≤ ops.size → hL T L k = (T i).H := by
    intro k hk
    induction k with
    | zero => intro _; have : i = 0 := by omega
              subst this; rfl
    | succ k ih =>
      intro hk2
      by_cases he : i = k + 1
      · subst he; exact h1 _ (Nat.le_refl _)
      · obtain ⟨x, hx⟩ := get_op (ops := ops) (k := k) (by omega)
        simp only [hL]
        rw [if_neg, ih (by omega) (by omega)]
        rintro ⟨q1, q2⟩
        by_cases he2 : i = k
        · subst he2; rw [hi] at q1; cases q1
        · have := h.behind (i := i) (k := k) (by omega) hy hx q1 (by rcases hb with hb | hb <;> simp [Cl.clash, q2, hb])
          rw [hi] at this; cases this
  exact h2 _ (by omega) (Nat.le_refl _)
theorem hL_mem {L : Nat → Bool} : ∀ m, ∃ k, k ≤ m ∧ hL T L m = (T k).H ∧ ∀ j, j < m → L j = true → (T j).c.wH = true → j + 1 ≤ k
 | 0 => ⟨0, Nat.le_refl _, rfl, fun j hj => by omega⟩
 | m + 1 => by
  simp only [hL]
  split
  ·exact ⟨m + 1, Nat.le_refl _, rfl, fun j hj _ _ => by omega⟩
  ·rename_i hc
   obtain ⟨k, h1, h2, h3⟩ := hL_mem (L := L) m
   refine ⟨k, by omega, h2, fun j hj q1 q2 => ?_⟩
   by_cases e : j = m
   ·subst e; exact absurd ⟨q1, q2⟩ hc
   ·exact h3 j (by omega) q1 q2
theorem stW_le {bits k : Nat} : ∀ {cs : List Cl} {i s : Nat}, s ≤ k → (∀ j c, cs[j]? = some c → c.wH = true → Nat.testBit bits (i + j) = true → i + j + 1 ≤ k) → stW bits cs i s ≤ k
 | [], _, _, h, _ => h
 | c :: r, i, s, h, hc => by
  simp only [stW]
  refine stW_le ?_ fun j c' e q1 q2 => ?_
  ·split
   ·rename_i e
    simp only [Bool.and_eq_true] at e
    exact hc 0 c rfl e.1 e.2
   ·exact h
  ·have := hc (j + 1) c' (by simpa using e) q1 (by rw [show i + (j + 1) = i + 1 + j by omega]; exact q2)
   omega
theorem Ok.heapF (h : Ok E P esc n ops T cls L) {i : Nat} {y : Oper} (hy : ops.toList[i]? = some y) (hr : ∀ e ∈ y.after.toList, Region.binds .any e = true → L e.on = true) {b : Nat} (hb : (T i).c.fB = some b) : (hL T L ops.size).get b = (T i).H.get b := by
 have hi : i < ops.toList.length := (List.getElem?_eq_some_iff.1 hy).1
 obtain ⟨k, h1, h2, h3⟩ := hL_mem (T := T) (L := L) ops.size
 have hlen := (ahead_spec ops.toList []).1
 simp only [List.length_nil, Nat.zero_add] at hlen
 obtain ⟨bits, hbt⟩ : ∃ b, (ahead ops.toList [])[i]? = some b := ⟨_, List.getElem?_eq_getElem (by omega)⟩
 have hd := h.chk
 simp only [drawOk, Bool.and_eq_true] at hd
 have hback := backOk_spec _ hd.1
 simp only [Nat.zero_add] at hback
 have hall := ahead_mem h.down i bits hbt y hy (fun e he hbe => ⟨hr e he hbe, hback i y hy e he hbe⟩) (fun k o _ ho => hback k o ho)
 rw [h2]
 refine h.same i (by simpa using hi) b hb bits hbt k (stW_le (Nat.zero_le _) fun j c e q1 q2 => ?_) h1
 rw [Nat.zero_add] at q2 ⊢
 have hj : j < ops.size := by rw [← h.len]; exact (List.getElem?_eq_some_iff.1 e).1
 have hc := h.cl j hj
 rw [e] at hc
 cases hc
 exact h3 j hj (hall j q2) q1
theorem sameC_spec {b : Nat} : ∀ {hs : List Heap}, sameC b hs → ∀ X ∈ hs, ∀ Y ∈ hs, X.get b = Y.get b
 | [], _, X, hX, _, _ => by cases hX
 | [Z], _, X, hX, Y, hY => by
  have e1 : X = Z := by simpa using hX
  have e2 : Y = Z := by simpa using hY
  rw [e1, e2]
 | Z :: Z' :: r, h, X, hX, Y, hY => by
  have ih := sameC_spec (b := b) (hs := Z' :: r) h.2
  have key : ∀ X ∈ Z :: Z' :: r, X.get b = Z'.get b := by
   intro X hX
   rcases List.mem_cons.1 hX with rfl | hX
   ·exact h.1
   ·exact ih X hX Z' List.mem_cons_self
  rw [key X hX, key Y hY]
theorem sameP_spec {hs : List Heap} {cls : List Cl} {b : Nat} : ∀ {cs : List Cl} {bs : List Nat} {i0 : Nat}, sameP hs cls cs bs i0 → ∀ i c, cs[i]? = some c → c.fB = some b → ∀ bits, bs[i]? = some bits →
  ∀ X ∈ hs.take (hs.length - Nat.min (stW bits cls 0 0) (i0 + i)), ∀ Y ∈ hs.take (hs.length - Nat.min (stW bits cls 0 0) (i0 + i)), X.get b = Y.get b
 | [], _, _, _, i, c, hc, _, _, _ => by simp at hc
 | c0 :: cs, bs, i0, h, i, c, hc, hb, bits, hbt => by
  simp only [sameP] at h
  cases i with
  | zero =>
   simp only [List.getElem?_cons_zero, Option.some.injEq] at hc
   subst hc
   rw [hb] at h
   have e : bs.headD 0 = bits := by
    cases bs with
    | nil => simp at hbt
    | cons x r => simpa using hbt
   have := h.1
   rw [e] at this
   exact sameC_spec this
  | succ i =>
   have hc : cs[i]? = some c := by simpa using hc
   have hbt : bs.tail[i]? = some bits := by
    cases bs with
    | nil => simp at hbt
    | cons x r => simpa using hbt
   rw [show i0 + (i + 1) = i0 + 1 + i by omega]
   split at h
   ·exact sameP_spec h i c hc hb bits hbt
   ·exact sameP_spec h.2 i c hc hb bits hbt
theorem noF_spec : ∀ {cs : List Cl}, noF cs = true → ∀ c ∈ cs, c.fB = none
 | [], _, c, hc => by cases hc
 | c0 :: cs, h, c, hc => by
  simp only [noF] at h
  split at h
  ·rename_i e
   rcases List.mem_cons.1 hc with rfl | hc
   ·exact e
   ·exact noF_spec h c hc
  ·cases h
def ins (L : Nat → Bool) (i : Nat) (k : Nat) : Bool := if k = i then true else L k
theorem ins_self {i : Nat} : ins L i i = true := by simp [ins]
theorem ins_ne {i k : Nat} (h : k ≠ i) : ins L i k = L k := by simp [ins, h]
theorem Ok.insF (h : Ok E P esc n ops T cls L) {i : Nat} {y : Oper} (hy : ops.toList[i]? = some y) (hi : L i = false) (t : Nat) :
  fL ops.toList T (ins L i) t ops.size = if y.dst = some t then (T i).sv else fL ops.toList T L t ops.size := by
 have hin : i < ops.size := by simpa using (List.getElem?_eq_some_iff.1 hy).1
 have h1 : ∀ k, k ≤ i → fL ops.toList T (ins L i) t k = fL ops.toList T L t k := by
  intro k
  induction k with
  | zero => intro _; rfl
  | succ k ih =>
   intro hk
   simp only [fL, ins_ne (L := L) (show k ≠ i by omega)]
   rw [ih (by omega)]
 have h2 : ∀ k, i < k → k ≤ ops.size → fL ops.toList T (ins L i) t k = if y.dst = some t then (T i).sv else fL ops.toList T L t k := by
  intro k hk
  induction k with
  | zero => omega
  | succ k ih =>
   intro hk2
   by_cases he : k = i
   ·subst he
    have hd : dstOf ops.toList k = y.dst := by simp only [dstOf, hy, Option.bind_some]
    simp only [fL, ins_self, hd, hi, true_and]
    split
    ·rfl
    ·rw [h1 k (Nat.le_refl _)]; simp
   ·obtain ⟨x, hx⟩ := get_op (ops := ops) (k := k) (by omega)
    have hd : dstOf ops.toList k = x.dst := by simp only [dstOf, hx, Option.bind_some]
    simp only [fL, ins_ne (L := L) he, hd]
    rw [ih (by omega) (by omega)]
    by_cases hq : L k = true ∧ x.dst = some t
    ·rw [if_pos hq, if_pos hq]
     rw [if_neg]
     intro hyd
     have := h.behind (i := i) (k := k) (by omega) hy hx hq.1 (by rw [slot_w hyd hq.2, Bool.or_true])
     rw [hi] at this; cases this
    ·rw [if_neg hq, if_neg hq]
 exact h2 _ hin (Nat.le_refl _)
def Beq (B B' : Bx) : Prop := (∀ d, B.get d = B'.get d) ∧ ∀ lv, Bx.under lv B = Bx.under lv B'
theorem Beq.refl (B : Bx) : Beq B B := ⟨fun _ => rfl, fun _ => rfl⟩
theorem Beq.trans {A B C : Bx} (h : Beq A B) (h' : Beq B C) : Beq A C := ⟨fun d => (h.1 d).trans (h'.1 d), fun lv => (h.2 lv).trans (h'.2 lv)⟩
theorem Beq.symm {A B : Bx} (h : Beq A B) : Beq B A := ⟨fun d => (h.1 d).symm, fun lv => (h.2 lv).symm⟩
theorem Beq.wr {A B : Bx} (h : Beq A B) (d : Option Nat) (wc : List HV) : Beq (wrB d wc A) (wrB d wc B) :=
 ⟨fun e => by rw [wrB_get, wrB_get, h.1], fun lv => by rw [wrB_under, wrB_under, h.2]⟩
theorem Ok.insB (h : Ok E P esc n ops T cls L) {i : Nat} {y : Oper} (hy : ops.toList[i]? = some y) (hi : L i = false) :
  Beq (bL T (ins L i) ops.size) (wrB (T i).c.wB (T i).wc (bL T L ops.size)) := by
 have hin : i < ops.size := by simpa using (List.getElem?_eq_some_iff.1 hy).1
 have h1 : ∀ k, k ≤ i → bL T (ins L i) k = bL T L k := by
  intro k
  induction k with
  | zero => intro _; rfl
  | succ k ih =>
   intro hk
   simp only [bL, ins_ne (L := L) (show k ≠ i by omega)]
   rw [ih (by omega)]
 have h2 : ∀ k, i < k → k ≤ ops.size → Beq (bL T (ins L i) k) (wrB (T i).c.wB (T i).wc (bL T L k)) := by
  intro k hk
  induction k with
  | zero => omega
  | succ k ih =>
   intro hk2
   by_cases he : k = i
   ·subst he
    simp only [bL, ins_self, hi, if_true]
    rw [h1 k (Nat.le_refl _)]
    simp only [Bool.false_eq_true, if_false]
    exact Beq.refl _
   ·obtain ⟨x, hx⟩ := get_op (ops := ops) (k := k) (by omega)
    have ih := ih (by omega) (by omega)
    simp only [bL, ins_ne (L := L) he]
    by_cases hl : L k = true
    ·rw [if_pos hl, if_pos hl]
     refine (ih.wr _ _).trans ⟨fun e => ?_, fun lv => by simp only [wrB_under]⟩
     simp only [wrB_get]
     by_cases ha : (T k).c.wB = some e
     ·by_cases hb : (T i).c.wB = some e
      ·have := h.behind (i := i) (k := k) (by omega) hy hx hl (by simp [Cl.clash, ha, hb, bxc])
       rw [hi] at this; cases this
      ·rw [if_pos ha, if_neg hb, if_pos ha]
     ·rw [if_neg ha, if_neg ha]
    ·rw [if_neg hl, if_neg hl]; exact ih
 exact h2 _ hin (Nat.le_refl _)
theorem Ok.insH (h : Ok E P esc n ops T cls L) {i : Nat} {y : Oper} (hy : ops.toList[i]? = some y) (hi : L i = false) :
  hL T (ins L i) ops.size = cond (T i).c.wH (T (i + 1)).H (hL T L ops.size) := by
 have hin : i < ops.size := by simpa using (List.getElem?_eq_some_iff.1 hy).1
 have h1 : ∀ k, k ≤ i → hL T (ins L i) k = hL T L k := by
  intro k
  induction k with
  | zero => intro _; rfl
  | succ k ih =>
   intro hk
   simp only [hL, ins_ne (L := L) (show k ≠ i by omega)]
   rw [ih (by omega)]
 have h2 : ∀ k, i < k → k ≤ ops.size → hL T (ins L i) k = cond (T i).c.wH (T (i + 1)).H (hL T L k) := by
  intro k hk
  induction k with
  | zero => omega
  | succ k ih =>
   intro hk2
   by_cases he : k = i
   ·subst he
    simp only [hL, ins_self, hi, true_and]
    rw [h1 k (Nat.le_refl _)]
    cases (T k).c.wH <;> simp
   ·obtain ⟨x, hx⟩ := get_op (ops := ops) (k := k) (by omega)
    simp only [hL, ins_ne (L := L) he]
    rw [ih (by omega) (by omega)]
    by_cases hq : L k = true ∧ (T k).c.wH = true
    ·rw [if_pos hq, if_pos hq]
     cases hw : (T i).c.wH with
     | false => rfl
     | true =>
      have := h.behind (i := i) (k := k) (by omega) hy hx hq.1 (by simp [Cl.clash, hw, hq.2])
      rw [hi] at this; cases this
    ·rw [if_neg hq, if_neg hq]
 exact h2 _ hin (Nat.le_refl _)
theorem Ok.all (h : Ok E P esc n ops T cls L) (hA : ∀ k, k < ops.size → L k = true) : (∀ t, fL ops.toList T L t ops.size = (T ops.size).F.get t) ∧ bL T L ops.size = (T ops.size).B ∧ hL T L ops.size = (T ops.size).H := by
 have : ∀ k, k ≤ ops.size → (∀ t, fL ops.toList T L t k = (T k).F.get t) ∧ bL T L k = (T k).B ∧ hL T L k = (T k).H := by
  intro k
  induction k with
  | zero => intro _; exact ⟨fun _ => rfl, rfl, rfl⟩
  | succ k ih =>
   intro hk
   obtain ⟨i1, i2, i3⟩ := ih (by omega)
   obtain ⟨x, hx⟩ := get_op (ops := ops) (k := k) (by omega)
   refine ⟨fun t => ?_, ?_, ?_⟩
   ·simp only [fL, dstOf, hx, Option.bind_some, hA k (by omega), true_and]
    rw [(h.good k x hx).f t, i1]
   ·simp only [bL, hA k (by omega), if_true]
    rw [(h.good k x hx).b, i2]
   ·simp only [hL, hA k (by omega), true_and]
    cases hw : (T k).c.wH with
    | true => rfl
    | false => rw [h.keepH (by omega) hw, ← i3]; rfl
 exact this _ (Nat.le_refl _)
end
end
set_option linter.unusedSectionVars false
variable [Sites]
section
variable {E : Env} {P : Program} {esc : Nat → Bool} {n : Nat} {I0 : Inj} {H0 : Heap} {w0 : World} {nt : Cx} {ops : Array Oper} {T : Nat → TS} {cls : List Cl} {L : Nat → Bool} {Q : Exit → Act → World → Prop}
variable {β : Nat → Option Nat} {I : Inj} {H : Heap} {w : World} {S : St} {a : Act} {ro : Option Nat}
theorem Inv.cong (hI : Inv E P I0 H0 w0 nt β I H w S a) {S' : St} (hF : ∀ t, S'.F.get t = S.F.get t) (hB : Beq S'.B S.B) : Inv E P I0 H0 w0 nt β I H w S' a := by
 obtain ⟨F', B'⟩ := S'
 obtain ⟨F, B⟩ := S
 simp only at hB hF
 obtain ⟨b1, b2⟩ := hB
 refine ⟨hI.step, hI.rel, ?_, ⟨?_, ?_, ?_⟩, ?_, hI.gl, hI.sz, ?_, hI.defers⟩
 ·intro t
  have := hI.fr t
  simp only at this ⊢
  rw [hF t]
  generalize F.get t = s at this
  cases s with
  | un => trivial
  | v x => exact this
  | loc d off => obtain ⟨h0, q⟩ := this; exact ⟨by rw [b1]; exact h0, q⟩
  | lsl d n => obtain ⟨h0, q⟩ := this; exact ⟨by rw [b1]; exact h0, q⟩
 ·intro d cs e
  simp only at e
  rw [b1] at e; exact hI.br.box d cs e
 ·intro d1 d2 b e1 e2
  simp only at e1 e2
  rw [b1] at e1 e2; exact hI.br.inj d1 d2 b e1 e2
 ·intro d b e
  simp only at e
  rw [b1] at e; exact hI.br.img d b e
 ·intro d b e
  simp only at e
  rw [b1] at e; exact hI.fresh d b e
 ·intro b hb
  have := hI.anc b hb
  simp only at this ⊢
  rw [b2]; exact this
theorem Inv.drawn (hI : Inv E P I0 H0 w0 nt β I H w S a) (d : Nat) : Inv E P I0 H0 w0 nt β I H { w with drawn := d } S a :=
 ⟨⟨hI.step.ext, hI.step.le, hI.step.n, hI.step.size, hI.step.keep, hI.step.img1, hI.step.img2, hI.step.img3, hI.step.lp⟩, ⟨hI.rel.bnd, hI.rel.img, hI.rel.obj, hI.rel.inj, hI.rel.sz, hI.rel.spc, hI.rel.ty, hI.rel.sinj⟩, hI.fr, ⟨hI.br.box, hI.br.inj, hI.br.img⟩, hI.fresh, hI.gl, hI.sz, hI.anc, hI.defers⟩
theorem Good.wanted {o : Oper} {u v : TS} (h : Good E P esc n ops o u v) (hI : Inv E P I0 H0 w0 nt β I H w S a) (hF : ∀ t ∈ o.looksAt ops, S.F.get t = u.F.get t) : Region.wanted o (yielded ops a.tmps) = u.x := by
 cases hg : o.guard with
 | none => simp [Region.wanted, hg, h.g0 hg]
 | some q =>
  obtain ⟨j, want⟩ := q
  obtain ⟨g, h1, hor⟩ := h.g1 j want hg
  have hm : g ∈ o.looksAt ops := by simp [Oper.looksAt, hg, h1]
  rcases hor with ⟨b, h2, h3⟩ | ⟨h2, h3⟩
  case inr =>
   have h4 := hI.fr g
   rw [hF g hm, h2] at h4
   have hy := yielded_ud (tmps := a.tmps) h1 (vr_ud' h4)
   simp only [Region.wanted, hg, hy, h3]; rfl
  have h4 := hI.fr g
  rw [hF g hm, h2] at h4
  have h5 : VR I (.bool b) (a.tmps.getD g undef) := h4
  have h6 : a.tmps.getD g undef = .bool b := by
   generalize a.tmps.getD g undef = u at h5
   cases h5; rfl
  have hy := yielded_eq h1 h6
  simp only [Region.wanted, hg, hy, h3]
  cases b <;> cases want <;> rfl
theorem draw_step (hE : EnvOk P E) (h : Ok E P esc n ops T cls L) {i : Nat} {y : Oper} (hy : ops.toList[i]? = some y) (hi : L i = false)
  (hr : ∀ e ∈ y.after.toList, Region.binds .any e = true → L e.on = true) (hd : ∀ d, y.dst = some d → d < nt.nt ∧ ∀ b ∈ nt.bars, d ∈ b.T)
  (hF : ∀ t, S.F.get t = fL ops.toList T L t ops.size) (hB : Beq S.B (bL T L ops.size)) (hI : Inv E P I0 H0 w0 nt β I (hL T L ops.size) w S a) {next : Act → World → Prop}
  (hn : ∀ β' I' w' a' S', (∀ t, S'.F.get t = fL ops.toList T (ins L i) t ops.size) → Beq S'.B (bL T (ins L i) ops.size) → Inv E P I0 H0 w0 nt β' I' (hL T (ins L i) ops.size) w' S' a' → next a' w') : wpOpIn (FW ro) 0 P ops Q i next a w := by
 have hy' : ops[i]? = some y := by rw [← Array.getElem?_toList]; exact hy
 have hlk : ∀ t ∈ y.looksAt ops, S.F.get t = (T i).F.get t := fun t ht => by rw [hF]; exact h.looks hy hi hr ht
 have hg := h.good i y hy
 have hw := hg.wanted hI hlk
 unfold wpOpIn
 rw [hy']
 simp only [hw]
 have iF := h.insF hy hi
 have iB := h.insB hy hi
 have iH := h.insH hy hi
 cases hx : (T i).x with
 | false =>
  obtain ⟨q1, _, q4⟩ := hg.no hx
  rw [if_neg (by simp)]
  rw [q4] at iB iH
  refine ⟨fun _ _ => trivial, ?_⟩
  refine hn β I w _ (S.put y.dst UD) (fun t => ?_) ?_ ?_
  ·rw [put_get, iF, q1, hF]
  ·rw [put_B]; exact hB.trans iB.symm
  ·rw [iH]; exact hI.put (v := undef) vr_ud hd
 | true =>
  obtain ⟨q1, _, q4⟩ := hg.yes hx
  rw [if_pos rfl]
  have hev : ∀ x ∈ y.op.operands.toList, S.ev E x = (⟨(T i).F, (T i).B⟩ : St).ev E x := by
   intro x hx
   cases x with
   | tmp t =>
    simp only [St.ev]
    refine hlk t ?_
    simp only [Oper.looksAt, List.mem_append, List.mem_filterMap]
    exact .inl ⟨_, hx, rfl⟩
   | _ => rfl
  rw [q1] at iB iH
  have hBB := fun d (hd : (T i).c.rB = some d ∨ (T i).c.wB = some d) => h.boxes hy hi hr hd
  have hHH := h.heap hy hi hr
  have hFF : ∀ b, (T i).c.fB = some b → (hL T L ops.size).get b = (T i).H.get b := fun b hb => h.heapF hy hr hb
  rw [q1] at hBB hHH hFF
  classical
  refine op_ok (n := n) (r := (.norm [], hL T (ins L i) ops.size)) (K := fun sv' S' H' _ => if sv' = (T i).sv ∧ S' = ⟨S.F, wrB (clOf E esc y ⟨(T i).F, (T i).B⟩).wB (T i).wc S.B⟩ ∧ H' = hL T (ins L i) ops.size then some (.norm [], H') else none) (esc := esc) hE hI ?_ ?_
  ·rw [q4 _ S _ hev (fun d q => by rw [hB.1]; exact hBB d q) hHH hFF, ← iH]
   simp
  ·intro sv S' H' I' β' w' v hK hI' hsv
   simp only at hK
   split at hK
   ·rename_i q
    obtain ⟨rfl, rfl, rfl⟩ := q
    refine hn β' I' w' _ _ ?_ ?_ (hI'.put hsv hd)
    ·intro t; rw [put_get, iF]; simp only [hF]
    ·rw [put_B]; exact (hB.wr _ _).trans iB.symm
   ·cases hK
def unl (l : List Bool) : Nat := (l.filter (!·)).length
theorem unl_set : ∀ (l : List Bool) (i : Nat), l[i]? = some false → unl (l.set i true) + 1 = unl l
 | [], i, h => by simp at h
 | x :: l, 0, h => by simp at h; subst h; simp [unl]
 | x :: l, i + 1, h => by
  have := unl_set l i (by simpa using h)
  simp only [unl, List.set_cons_succ, List.filter_cons] at this ⊢
  split
  ·simp only [List.length_cons]; omega
  ·exact this
theorem unl_zero : ∀ (l : List Bool), unl l = 0 → ∀ k, k < l.length → l[k]? = some true
 | x :: l, h, k, hk => by
  cases x with
  | false => simp [unl] at h
  | true =>
   cases k with
   | zero => rfl
   | succ k => 
    have := unl_zero l (by simpa [unl] using h) k (by simpa using hk)
    simpa using this
 | [], _, k, hk => by simp at hk
theorem mem_ready {listed : Array Bool} {i : Nat} : i ∈ Region.ready .any ops listed ↔ listed.getD i true = false ∧ ∃ y, ops.toList[i]? = some y ∧ ∀ e ∈ y.after.toList, Region.binds .any e = true → listed.getD e.on false = true := by
 simp only [Region.ready, List.mem_filter, List.mem_range, Bool.and_eq_true, Bool.not_eq_true', Array.getElem?_toList]
 constructor
 ·rintro ⟨h1, h2, h3⟩
  refine ⟨h2, ?_⟩
  cases e : ops[i]? with
  | none => rw [e] at h3; simp at h3
  | some y =>
   rw [e] at h3
   simp only [Option.map_some, Option.getD_some, Array.all_eq_true_iff_forall_mem, Bool.or_eq_true, Bool.not_eq_true'] at h3
   refine ⟨y, rfl, fun e he hb => ?_⟩
   rcases h3 e (by simpa using he) with h | h
   ·rw [hb] at h; cases h
   ·exact h
 ·rintro ⟨h2, y, hy, h3⟩
  refine ⟨(Array.getElem?_eq_some_iff.1 hy).1, h2, ?_⟩
  rw [hy]
  simp only [Option.map_some, Option.getD_some, Array.all_eq_true_iff_forall_mem, Bool.or_eq_true, Bool.not_eq_true']
  intro e he
  cases hb : Region.binds .any e with
  | false => exact .inl rfl
  | true => exact .inr (h3 e (by simpa using he) hb)
theorem draw_any (hE : EnvOk P E) (hd : ∀ o ∈ ops.toList, ∀ d, o.dst = some d → d < nt.nt ∧ ∀ b ∈ nt.bars, d ∈ b.T)
  (hQ : ∀ β I w a S, (∀ t, S.F.get t = (T ops.size).F.get t) → Beq S.B (T ops.size).B → Inv E P I0 H0 w0 nt β I (T ops.size).H w S a → Q .normal a w) :
  ∀ (fuel : Nat) (listed : Array Bool) {β I w S a}, listed.size = ops.size → Ok E P esc n ops T cls (fun k => listed.getD k false) → unl listed.toList ≤ fuel →
   (∀ t, S.F.get t = fL ops.toList T (fun k => listed.getD k false) t ops.size) → Beq S.B (bL T (fun k => listed.getD k false) ops.size) → Inv E P I0 H0 w0 nt β I (hL T (fun k => listed.getD k false) ops.size) w S a →
   wpAnyIn (FW ro) 0 P .any ops Q fuel listed a w := by
 intro fuel
 -- where none is ready all are listed
 have fin : ∀ (listed : Array Bool) {β I w S a}, listed.size = ops.size → Ok E P esc n ops T cls (fun k => listed.getD k false) →
   (∀ t, S.F.get t = fL ops.toList T (fun k => listed.getD k false) t ops.size) → Beq S.B (bL T (fun k => listed.getD k false) ops.size) → Inv E P I0 H0 w0 nt β I (hL T (fun k => listed.getD k false) ops.size) w S a →
   Region.ready .any ops listed = [] → Q .normal a w := by
  intro listed β I w S a hs hok hF hB hI hrd
  have hall : ∀ k, k < ops.size → listed.getD k false = true := by
   intro k
   induction k using Nat.strongRecOn with
   | ind k ih =>
    intro hk
    cases hk' : listed.getD k false with
    | true => rfl
    | false =>
     exfalso
     obtain ⟨y, hy⟩ := get_op (ops := ops) hk
     have hback := backOk_spec _ (by have := hok.chk; simp only [drawOk, Bool.and_eq_true] at this; exact this.1) k y hy
     simp only [Nat.zero_add] at hback
     have : k ∈ Region.ready .any ops listed := mem_ready.2 ⟨by
      rw [Array.getD_eq_getD_getElem?, Array.getElem?_eq_getElem (by omega)] at hk' ⊢
      exact hk', y, hy, fun e he hb => ih e.on (hback e he hb) (by have := hback e he hb; omega)⟩
     rw [hrd] at this; cases this
  obtain ⟨g1, g2, g3⟩ := hok.all hall
  refine hQ β I w a S (fun t => by rw [hF, g1]) (by rw [← g2]; exact hB) (by rw [← g3]; exact hI)
 induction fuel with
 | zero =>
  intro listed β I w S a hs hok hu hF hB hI
  have hrd : Region.ready .any ops listed = [] := by
   cases e : Region.ready .any ops listed with
   | nil => rfl
   | cons i rest =>
    exfalso
    have : i ∈ Region.ready .any ops listed := by rw [e]; exact List.mem_cons_self
    obtain ⟨h1, y, hy, _⟩ := mem_ready.1 this
    have hin : i < ops.size := by simpa using (List.getElem?_eq_some_iff.1 hy).1
    have := unl_zero _ (Nat.le_zero.1 hu) i (by simpa [hs] using hin)
    rw [Array.getD_eq_getD_getElem?, ← Array.getElem?_toList, this] at h1
    cases h1
  exact ⟨hrd, fin listed hs hok hF hB hI hrd⟩
 | succ fuel ih =>
  intro listed β I w S a hs hok hu hF hB hI
  refine ⟨fin listed hs hok hF hB hI, fun i hi => ?_⟩
  obtain ⟨h1, y, hy, hr⟩ := mem_ready.1 hi
  have hin : i < ops.size := by simpa using (List.getElem?_eq_some_iff.1 hy).1
  have hlf : listed.toList[i]? = some false := by
   rw [Array.getD_eq_getD_getElem?, Array.getElem?_eq_getElem (by omega)] at h1
   rw [Array.getElem?_toList, Array.getElem?_eq_getElem (by omega)]
   exact congrArg some h1
  have hli : (fun k => listed.getD k false) i = false := by
   simp only; rw [Array.getD_eq_getD_getElem?, ← Array.getElem?_toList, hlf]; rfl
  have hins : (fun k => (listed.setIfInBounds i true).getD k false) = ins (fun k => listed.getD k false) i := by
   funext k
   simp only [Array.getD_eq_getD_getElem?, ins]
   by_cases hk : k = i
   ·subst hk; simp [hs, hin]
   ·rw [if_neg hk, Array.getElem?_setIfInBounds_ne (Ne.symm hk)]
  refine draw_step hE hok hy hli hr (hd y (List.mem_of_getElem? hy)) hF hB hI ?_
  intro β' I' w' a' S' gF gB gI
  refine ih (listed.setIfInBounds i true) (by simpa using hs) ?_ ?_ (by rw [hins]; exact gF) (by rw [hins]; exact gB) (by rw [hins]; exact gI)
  ·refine ⟨hok.good, hok.chk, hok.len, hok.cl, fun k o ho hk e he hb => ?_, hok.same⟩
   have hk : ins (fun k => listed.getD k false) i k = true := by rw [← hins]; exact hk
   show (fun k => (listed.setIfInBounds i true).getD k false) e.on = true
   rw [hins]
   by_cases hk' : k = i
   ·subst hk'
    rw [hy] at ho; cases ho
    have := hr e he hb
    simp only [ins]; split <;> simp [this]
   ·rw [ins_ne hk'] at hk
    have := hok.down k o ho hk e he hb
    simp only [ins] at this ⊢; split <;> simp [this]
  ·have := unl_set listed.toList i hlf
   rw [Array.toList_setIfInBounds]
   omega
theorem fL_none {ops : List Oper} {T : Nat → TS} (t : Nat) : ∀ k, fL ops T (fun _ => false) t k = (T 0).F.get t
 | 0 => rfl
 | k + 1 => by simp only [fL]; rw [if_neg (by simp), fL_none t k]
theorem bL_none {T : Nat → TS} : ∀ k, bL T (fun _ => false) k = (T 0).B
 | 0 => rfl
 | k + 1 => by simp only [bL]; rw [if_neg (by simp), bL_none k]
theorem hL_none {T : Nat → TS} : ∀ k, hL T (fun _ => false) k = (T 0).H
 | 0 => rfl
 | k + 1 => by simp only [hL]; rw [if_neg (by simp), hL_none k]
/-! boxes that are blocks from now on -/
theorem Bx.rm_get (d : Nat) : ∀ (B : Bx) (x : Nat), x ≠ d → (B.rm d).get x = B.get x
 | .nil, _, _ => rfl
 | .bar _ _, _, _ => rfl
 | .set e cs B, x, h => by
  simp only [Bx.rm]
  split
  ·rename_i he
   rw [Bx.rm_get d B x h, Bx.get_set, if_neg (fun hh => h (by rw [hh, Nat.eq_of_beq_eq_true he]))]
  ·rw [Bx.get_set, Bx.get_set, Bx.rm_get d B x h]
theorem Bx.rm_under (d lv : Nat) : ∀ B : Bx, Bx.under lv (B.rm d) = Bx.under lv B
 | .nil => rfl
 | .bar _ _ => rfl
 | .set e cs B => by
  simp only [Bx.rm]
  split
  ·rw [Bx.rm_under d lv B]; rfl
  ·show Bx.under lv (B.rm d) = Bx.under lv B
   exact Bx.rm_under d lv B
theorem Fr.pub_get (d b : Nat) : ∀ (F : Fr) (t : Nat), (F.pub d b).get t = (F.get t).pub d b
 | .nil, _ => rfl
 | .set x s F, t => by
  simp only [Fr.pub]
  rw [Fr.get_set, Fr.get_set, Fr.pub_get d b F t]
  split <;> rfl
 | .mask ts F, t => by
  simp only [Fr.pub, Fr.get]
  split
  ·rfl
  ·exact Fr.pub_get d b F t
theorem Inv.publish (hI : Inv E P I0 H0 w0 nt β I H w S a) {d : Nat} {cs : List HV} (eb : S.B.get d = some cs) (hn : (S.B.rm d).get d = none) :
  ∃ I', Inv E P I0 H0 w0 nt β I' (H.push (.cells cs false)) w ⟨S.F.pub d H.n, S.B.rm d⟩ a := by
 obtain ⟨b, c, el, h1, h2, h3, h4⟩ := hI.br.box d cs eb
 have hne : S.B.get d ≠ none := by rw [eb]; simp
 have him := hI.br.img d b hne h1
 have hR := hI.rel
 have hlt := lt_of_heap h2
 have hle : I.le (I.up H.n b c.size) := ⟨fun x y e => by
   simp only [Inj.up]; rw [if_neg]; exact e; intro hx; rw [hx, hR.j_none (Nat.le_refl _)] at e; exact (nomatch e), fun x s e => by
   simp only [Inj.up]
   split
   ·rename_i hx; subst hx
    obtain ⟨c', el', fr, q1, q2⟩ := hR.sz x s e
    rw [h2] at q1; cases q1; rw [q2]
   ·exact e⟩
 have hj : (I.up H.n b c.size).j H.n = some (b, 0) := by simp [Inj.up]
 refine ⟨I.up H.n b c.size, ⟨?_, ?_, ?_, ?_, ?_, ?_, hI.sz, ?_, ?_⟩⟩
 ·refine ⟨hI.step.ext, hI.step.le.trans hle, Nat.le_trans hI.step.n (by simp [Heap.push]), hI.step.size, hI.step.keep, ?_, ?_, ?_, hI.step.lp⟩
  ·intro x b' e q; simp only [Inj.up] at q
   split at q
   ·cases q; exact .inl (hI.fresh d b hne h1)
   ·exact hI.step.img1 x b' e q
  ·intro x b' e cs' q q2; simp only [Inj.up] at q; simp only [Heap.push] at q2
   split at q
   ·cases q; exact .inl (hI.fresh d b hne h1)
   ·rename_i hx; rw [if_neg hx] at q2; exact hI.step.img2 x b' e cs' q q2
  ·intro x b' e s q q2; simp only [Inj.up] at q; simp only [Heap.push] at q2
   split at q
   ·cases q; exact .inl (hI.fresh d b hne h1)
   ·rename_i hx; rw [if_neg hx] at q2; exact hI.step.img3 x b' e s q q2
 ·refine ⟨?_, ?_, ?_, ?_, ?_, ?_, ?_, ?_⟩
  ·intro x y e; simp only [Inj.up] at e; simp only [Heap.push]
   split at e
   ·omega
   ·have := hR.bnd x y e; omega
  ·intro x b' e q; simp only [Inj.up] at q
   split at q
   ·cases q; exact hlt
   ·exact hR.img x b' e q
  ·intro x b' e cs' ro q1 q2
   simp only [Inj.up] at q1; simp only [Heap.push] at q2
   split at q1
   ·rename_i hx; rw [if_pos hx] at q2; cases q1; cases q2
    exact ⟨c, el, (0, 0), h2, fun i y hy => by
     obtain ⟨v, p1, p2⟩ := box_cells0 h3 h4 i y hy
     exact ⟨v, p1, p2.mono hle⟩, fun _ => ⟨rfl, thaw0 _ _⟩⟩
   ·rename_i hx; rw [if_neg hx] at q2
    obtain ⟨c', el', fr, p1, p2, p3⟩ := hR.obj x b' e cs' ro q1 q2
    exact ⟨c', el', fr, p1, fun i y hy => by
     obtain ⟨v, o1, o2⟩ := p2 i y hy; exact ⟨v, o1, o2.mono hle⟩, p3⟩
  ·intro b1 b2 b' d1 d2 c1 c2 ro e1 e2 e3 e4
   simp only [Inj.up] at e1 e2; simp only [Heap.push] at e3 e4
   split at e1 <;> split at e2
   ·omega
   ·cases e1; exact absurd e2 (him _ _)
   ·cases e2; exact absurd e1 (him _ _)
   ·rename_i n1 n2
    rw [if_neg n1] at e3; rw [if_neg n2] at e4
    exact hR.inj b1 b2 b' d1 d2 c1 c2 ro e1 e2 e3 e4
  ·intro b' s e; simp only [Inj.up] at e
   split at e
   ·rename_i hb; subst hb; cases e; exact ⟨c, el, (0, 0), h2, rfl⟩
   ·exact hR.sz b' s e
  ·intro x b' e s q1 q2
   simp only [Inj.up] at q1; simp only [Heap.push] at q2
   split at q1
   ·rename_i hx; rw [if_pos hx] at q2; cases q2
   ·rename_i hx; rw [if_neg hx] at q2
    obtain ⟨g0, r, g1, g2⟩ := hR.spc x b' e s q1 q2
    exact ⟨g0, r, g1, g2.mono hle⟩
  ·intro x b' e t2 s q1 q2
   simp only [Inj.up] at q1
   have q2' : (if x = H.n then none else H.ty x) = some (t2, s) := q2
   split at q1
   ·rename_i hx; rw [if_pos hx] at q2'; cases q2'
   ·rename_i hx; rw [if_neg hx] at q2'; exact hR.ty _ _ _ _ _ q1 q2'
  ·intro b1 b2 b' d1 d2 s1 s2 e1 e2 e3 e4
   simp only [Inj.up] at e1 e2; simp only [Heap.push] at e3 e4
   split at e1
   ·rename_i n1; rw [if_pos n1] at e3; cases e3
   split at e2
   ·rename_i n2; rw [if_pos n2] at e4; cases e4
   rename_i n1 n2
   rw [if_neg n1] at e3; rw [if_neg n2] at e4
   exact hR.sinj b1 b2 b' d1 d2 s1 s2 e1 e2 e3 e4
 ·intro t
  have := hI.fr t
  simp only
  rw [Fr.pub_get]
  generalize a.tmps.getD t undef = v at this
  generalize S.F.get t = s at this
  cases s with
  | un => trivial
  | v x => exact VR.mono hle this
  | loc e off =>
   obtain ⟨g1, b2, g2, rfl⟩ := this
   simp only [SV.pub]
   split
   ·rename_i he
    rw [Nat.eq_of_beq_eq_true he, h1] at g2; cases g2
    have := VR.ptr (o := off) hj
    rw [Nat.zero_add] at this; exact this
   ·rename_i he
    refine ⟨?_, b2, g2, rfl⟩
    rw [Bx.rm_get _ _ _ (fun hh => by rw [hh] at he; simp at he)]; exact g1
  | lsl e m =>
   obtain ⟨g1, b2, g2, rfl⟩ := this
   simp only [SV.pub]
   split
   ·rename_i he
    rw [Nat.eq_of_beq_eq_true he, h1] at g2; cases g2
    have := VR.sl (o := 0) (len := m) (cap := m) (cap' := m) (opn := none) hj (Nat.le_refl _) (fun _ => rfl) (fun es e => by cases e)
    exact this
   ·rename_i he
    refine ⟨?_, b2, g2, rfl⟩
    rw [Bx.rm_get _ _ _ (fun hh => by rw [hh] at he; simp at he)]; exact g1
 ·have key : ∀ x, (S.B.rm d).get x ≠ none → x ≠ d ∧ S.B.get x ≠ none := by
   intro x hx
   have : x ≠ d := fun hh => by subst hh; exact hx hn
   exact ⟨this, by rwa [Bx.rm_get _ _ _ this] at hx⟩
  refine ⟨fun x cs' e => ?_, fun d1 d2 b' e1 e2 => hI.br.inj d1 d2 b' (key d1 e1).2 (key d2 e2).2, fun x b' e hb y z hy => ?_⟩
  ·have hx := key x (by rw [e]; simp)
   simp only at e
   rw [Bx.rm_get _ _ _ hx.1] at e
   obtain ⟨b2, c2, el2, q1, q2, q3, q4⟩ := hI.br.box x cs' e
   exact ⟨b2, c2, el2, q1, q2, q3.mono hle, q4⟩
  ·have hx := key x e
   simp only [Inj.up] at hy
   split at hy
   ·cases hy; exact hx.1 (hI.br.inj x d b hx.2 hne hb h1)
   ·exact hI.br.img x b' hx.2 hb y z hy
 ·intro x b' e hb
  refine hI.fresh x b' ?_ hb
  have : x ≠ d := fun hh => by subst hh; exact e hn
  rwa [Bx.rm_get _ _ _ this] at e
 ·exact fun g hb e => hle.j _ _ (hI.gl g hb e)
 ·intro br hb
  obtain ⟨q1, q2, q3, q4⟩ := hI.anc br hb
  exact ⟨q1, by simp only; rw [Bx.rm_under]; exact q2, q3, q4.trans hle⟩
 ·refine hI.defers.of fun D q1 q2 => ⟨rfl, fun x e hx => ?_⟩
  simp only [Inj.up] at hx
  split at hx
  ·cases hx; rw [h2] at q1; cases q1
  ·exact q2 x e hx
theorem pubD_some {K : St → M Leaf} {r : Leaf × Heap} {Q : Act → World → Prop} (hQ : Post E P I0 H0 w0 nt K n r Q) : ∀ {pub : List Nat} {β : Nat → Option Nat} {I : Inj} {H : Heap} {w : World} {S : St} {a : Act},
  app (pubD pub S K) H n = some r → Inv E P I0 H0 w0 nt β I H w S a → Q a w
 | [], _, _, _, _, _, _, h, hI => hQ _ _ _ _ _ _ h hI
 | d :: pub, β, I, H, w, S, a, h, hI => by
  simp only [pubD] at h
  split at h
  ·rename_i cs e1 e2
   obtain ⟨I', hI'⟩ := hI.publish e1 e2
   exact pubD_some hQ (pub := pub) h hI'
  ·exact (stk_some h).elim
theorem draw_wp (hE : EnvOk P E) {K : St → M Leaf} {r : Leaf × Heap} (hd : ∀ o ∈ ops.toList, ∀ d, o.dst = some d → d < nt.nt ∧ ∀ b ∈ nt.bars, d ∈ b.T)
  {sn : Bool} {pub : List Nat} (h : denOpsT E P esc ops sn ops.toList [] [] S (fun S' cls hs => gd (drawOk ops cls) (sameM sn cls (ahead ops.toList []) hs (pubD pub S' K))) H n = some r) (hI : Inv E P I0 H0 w0 nt β I H w S a) (hQ : Post E P I0 H0 w0 nt K n r (Q .normal)) : wpAnyIn (FW ro) 0 P .any ops Q ops.size (Array.replicate ops.size false) a { w with drawn := w.drawn + 1 } := by
 obtain ⟨T, h1, h2, h3, h4, F', hs', h5, h7, h6⟩ := trace ops.toList [] [] S H h
 rw [List.nil_append] at h6
 obtain ⟨g1, g2⟩ := gd_some h6
 simp only [Array.length_toList] at g1 g2 h5 h7
 obtain ⟨hsm, g2⟩ : (∀ i, i < ops.size → ∀ b, (T i).c.fB = some b → ∀ bits, (ahead ops.toList [])[i]? = some bits → ∀ k, stW bits ((List.range ops.size).map fun k => (T k).c) 0 0 ≤ k → k ≤ ops.size → (T k).H.get b = (T i).H.get b) ∧ app (pubD pub ⟨F', (T ops.size).B⟩ K) (T ops.size).H n = some r := by
  have hm : ∀ i, i < ops.size → (T i).c ∈ (List.range ops.size).map fun k => (T k).c := fun i hi => List.mem_map.2 ⟨i, List.mem_range.2 hi, rfl⟩
  cases sn with
  | false =>
   obtain ⟨q1, q2⟩ := gd_some (show gd _ _ _ _ = _ from g2)
   exact ⟨fun i hi b hb => (by rw [noF_spec q1 _ (hm i hi)] at hb; cases hb), q2⟩
  | true =>
   have g2 : gdP _ _ _ _ = _ := g2
   unfold gdP at g2
   split at g2
   ·rename_i q
    obtain ⟨z1, _, z3⟩ := h7 rfl
    refine ⟨fun i hi b hb bits hbt k hk1 hk => ?_, g2⟩
    have hsp := sameP_spec q i _ (by rw [List.getElem?_map, List.getElem?_range hi]; rfl) hb bits hbt
    rw [Nat.zero_add] at hsp
    have hmin : ∀ a, Nat.min a i ≤ i ∧ Nat.min a i ≤ a := fun a => ⟨Nat.min_le_right _ _, Nat.min_le_left _ _⟩
    simp only [List.length_nil, Nat.add_zero] at z1
    have key : ∀ j, j ≤ ops.size → Nat.min (stW bits ((List.range ops.size).map fun k => (T k).c) 0 0) i ≤ j → (T j).H ∈ hs'.take (hs'.length - Nat.min (stW bits ((List.range ops.size).map fun k => (T k).c) 0 0) i) := fun j hj hm => by
     refine List.mem_of_getElem? (i := ops.size - j) ?_
     rw [List.getElem?_take, if_pos (by omega)]
     exact z3 j hj
    exact hsp _ (key k hk (Nat.le_trans (hmin _).2 hk1)) _ (key i (by omega) (hmin _).1)
   ·cases g2
 have hno : (fun k => (Array.replicate ops.size false).getD k false) = fun _ => false := by
  funext k
  rw [Array.getD_eq_getD_getElem?]
  by_cases hk : k < ops.size
  ·simp [hk]
  ·simp [hk]
 refine draw_any (I0 := I0) (H0 := H0) (w0 := w0) (nt := nt) (T := T) (cls := (List.range ops.size).map fun k => (T k).c) (esc := esc) (n := n) (S := S) (β := β) (I := I) hE hd ?_ ops.size _ (by simp) ?_ ?_ ?_ ?_ ?_
 ·intro β' I' w' a' S' q1 q2 q3
  refine pubD_some hQ g2 (q3.cong (S' := ⟨F', (T ops.size).B⟩) (fun t => ?_) ?_)
  ·simp only; rw [h5, q1]
  ·exact q2.symm
 ·refine ⟨h4, g1, by simp, fun k hk => by simp [hk], fun k o _ hk => ?_, hsm⟩
  have hk' : (fun k => (Array.replicate ops.size false).getD k false) k = true := hk
  rw [hno] at hk'; cases hk'
 ·have : unl (Array.replicate ops.size false).toList = ops.size := by
   simp [unl]
  omega
 ·intro t; rw [hno, fL_none, h1]
 ·rw [hno, bL_none, h2]; exact Beq.refl _
 ·rw [hno, hL_none, h3]; exact hI.drawn _
theorem draw_ok (hE : EnvOk P E) (hm : P.follows .mixedOrders = true) {id : Nat} {K : St → M Leaf} {r : Leaf × Heap} (hd : ∀ o ∈ ops.toList, ∀ d, o.dst = some d → d < nt.nt ∧ ∀ b ∈ nt.bars, d ∈ b.T)
  {sn : Bool} {pub : List Nat} (h : denOpsT E P esc ops sn ops.toList [] [] S (fun S' cls hs => gd (drawOk ops cls) (sameM sn cls (ahead ops.toList []) hs (pubD pub S' K))) H n = some r) (hI : Inv E P I0 H0 w0 nt β I H w S a) (hQ : Post E P I0 H0 w0 nt K n r (Q .normal)) : (Code.region id ops true).wpIn (FW ro) 0 P Q a w :=
 wpIn_region_any hm (draw_wp hE hd h hI hQ)
end
/-! ## a region that is cut -/
theorem fullFrom_spec : ∀ {l : List Nat} {i : Nat}, fullFrom l i = true → ∀ k b, l[k]? = some b → b = 2 ^ (i + k) - 1
 | [], _, _, k, b, e => by simp at e
 | x :: l, i, h, k, b, e => by
  simp only [fullFrom, Bool.and_eq_true] at h
  cases k with
  | zero => simp at e; subst e; exact Nat.eq_of_beq_eq_true h.1
  | succ k => have := fullFrom_spec h.2 k b (by simpa using e); rw [this]; congr 2; omega
theorem guardsIn_spec {c : Nat} : ∀ {l : List Oper}, guardsIn c l = true → ∀ o ∈ l, ∀ j v, o.guard = some (j, v) → j < c
 | [], _, o, ho => by cases ho
 | x :: l, h, o, ho => by
  simp only [guardsIn, Bool.and_eq_true] at h
  rcases List.mem_cons.1 ho with rfl | ho
  ·intro j v e
   have := h.1
   rw [e] at this
   simpa [Nat.blt_eq] using this
  ·exact guardsIn_spec h.2 o ho
section
variable {F : Fence} {m : Nat} {P : Program} {ops : Array Oper} {Q : Exit → Act → World → Prop}
def Down (ops : Array Oper) (L : Nat → Bool) : Prop := ∀ k o, ops.toList[k]? = some o → L k = true → ∀ e ∈ o.after.toList, Region.binds .any e = true → L e.on = true
structure Cut (ops : Array Oper) (c : Nat) : Prop where
 lt : c < ops.toList.length
 back : ∀ k o, ops.toList[k]? = some o → ∀ e ∈ o.after.toList, Region.binds .any e = true → e.on < k
 full : ∀ i b, c ≤ i → (ahead ops.toList [])[i]? = some b → b = 2 ^ i - 1
 gds : ∀ i o, i < c → ops.toList[i]? = some o → ∀ j v, o.guard = some (j, v) → j < c
theorem cut_spec {c : Nat} (h : cutOk ops c = true) : Cut ops c := by
 simp only [cutOk, Bool.and_eq_true] at h
 obtain ⟨⟨⟨h1, h2⟩, h3⟩, h4⟩ := h
 refine ⟨by simpa [Nat.blt_eq] using h1, fun k o e ed he hb => by have := backOk_spec _ h2 k o e ed he hb; omega, fun i b hi e => ?_, fun i o hi e => guardsIn_spec h4 o ?_⟩
 ·have := fullFrom_spec h3 (i - c) b (by rw [List.getElem?_drop]; rw [← e]; congr 1; omega)
  rw [this]; congr 2; omega
 ·exact List.mem_of_getElem? (i := i) (by rw [List.getElem?_take, if_pos hi]; exact e)
theorem ready_below {c : Nat} (hc : Cut ops c) {listed : Array Bool} (hd : Down ops fun k => listed.getD k false) {i : Nat} (hi : i ∈ Region.ready .any ops listed) (hci : c ≤ i) : ∀ k, k < i → listed.getD k false = true := by
 intro k hk
 obtain ⟨_, y, hy, hr⟩ := mem_ready.1 hi
 have hlen := (ahead_spec ops.toList []).1
 obtain ⟨b, hb⟩ : ∃ b, (ahead ops.toList [])[i]? = some b := ⟨_, List.getElem?_eq_getElem (by
  have := (List.getElem?_eq_some_iff.1 hy).1
  simp only [List.length_nil, Nat.zero_add] at hlen; omega)⟩
 refine ahead_mem (ops := ops.toList) (L := fun k => listed.getD k false) hd i b hb y hy (fun e he hbe => ⟨hr e he hbe, hc.back i y hy e he hbe⟩) (fun k o _ ho => hc.back k o ho) k ?_
 rw [hc.full i b hci hb, Nat.testBit_two_pow_sub_one]
 simpa using hk
theorem ready_some {c : Nat} (hc : Cut ops c) {listed : Array Bool} (hs : listed.size = ops.size) {k : Nat} (hk : k < ops.size) (h : listed.getD k false = false) : Region.ready .any ops listed ≠ [] := by
 intro hrd
 induction k using Nat.strongRecOn with
 | ind k ih =>
  obtain ⟨y, hy⟩ := get_op (ops := ops) hk
  have hback := hc.back k y hy
  by_cases hall : ∀ j, j < k → listed.getD j false = true
  ·have : k ∈ Region.ready .any ops listed := mem_ready.2 ⟨by
    rw [Array.getD_eq_getD_getElem?, Array.getElem?_eq_getElem (by omega)] at h ⊢
    exact h, y, hy, fun e he hb => hall e.on (hback e he hb)⟩
   rw [hrd] at this; cases this
  ·have ⟨j, hj⟩ := Classical.not_forall.1 hall
   have ⟨hj1, hj2⟩ := Classical.not_imp.1 hj
   exact ih j hj1 (by omega) (by simpa using hj2)
theorem Oper.wpIn_mono2 {o : Oper} {a : Act} {w : World} {K K' : Act → World → Prop} {Q' : Exit → Act → World → Prop} (h : ∀ a w, K a w → K' a w) (hq : ∀ e a w, Q' e a w → e = .normal)
  (hh : o.wpIn F m P a w K Q') : o.wpIn F m P a w K' Q := by
 unfold Oper.wpIn at *
 refine ⟨hh.1, ?_⟩
 have hh := hh.2
 generalize (o.semAt F.round a.eval).run P w = r at *
 have hp : ∀ c a w, ¬ Q' (.panic c) a w := fun c a w x => by have := hq _ _ _ x; cases this
 have ho : ¬ LetsOut Q' := fun x => by obtain ⟨a', w', x⟩ := x; have := hq _ _ _ x; cases this
 cases r with
 | ok x w' =>
  cases x <;> simp only [Oper.uponIn] at hh ⊢ <;>
   first
    | exact h _ _ hh
    | exact ⟨hh.1, CallsIn.mono hh.2 (fun e w'' he => by cases e <;> first | exact h _ _ he | exact (hp _ _ _ he).elim | exact (ho he).elim)⟩
    | exact ⟨hh.1, RowsIn.mono hh.2 (fun _ _ he => h _ _ he)⟩
    | exact ⟨hh.1, RoundIn.mono hh.2 (fun e w'' he => by cases e <;> first | exact h _ _ he | exact (hp _ _ _ he).elim | exact (ho he).elim)⟩
    | exact hh
 | halt r w' =>
  cases r <;> simp only [Oper.uponIn] at hh ⊢ <;> first | exact (hp _ _ _ hh).elim | exact hh
theorem wanted_take {c : Nat} {o : Oper} (h : ∀ j v, o.guard = some (j, v) → j < c) (tmps : Array Value) : Region.wanted o (yielded ⟨ops.toList.take c⟩ tmps) = Region.wanted o (yielded ops tmps) := by
 cases hg : o.guard with
 | none => simp [Region.wanted, hg]
 | some q =>
  obtain ⟨j, v⟩ := q
  have hj := h j v hg
  have e : (⟨ops.toList.take c⟩ : Array Oper)[j]? = ops[j]? := by
   rw [← Array.getElem?_toList, ← Array.getElem?_toList]; simp only; rw [List.getElem?_take, if_pos hj]
  simp only [Region.wanted, hg, yielded, e]
theorem wpOpIn_take {c i : Nat} (hc : Cut ops c) (hi : i < c) {a : Act} {w : World} {K K' : Act → World → Prop} {Q' : Exit → Act → World → Prop} (h : ∀ a w, K a w → K' a w) (hq : ∀ e a w, Q' e a w → e = .normal)
  (hh : wpOpIn F m P ⟨ops.toList.take c⟩ Q' i K a w) : wpOpIn F m P ops Q i K' a w := by
 unfold wpOpIn at *
 have e : (⟨ops.toList.take c⟩ : Array Oper)[i]? = ops[i]? := by
  rw [← Array.getElem?_toList, ← Array.getElem?_toList]; simp only; rw [List.getElem?_take, if_pos hi]
 rw [e] at hh
 cases ho : ops[i]? with
 | none => rw [ho] at hh; exact h _ _ hh
 | some o =>
  rw [ho] at hh
  have hg := hc.gds i o hi (by rw [Array.getElem?_toList]; exact ho)
  simp only [wanted_take hg] at hh ⊢
  split
  ·rename_i hw; rw [if_pos hw] at hh; exact Oper.wpIn_mono2 h hq hh
  ·rename_i hw; rw [if_neg hw] at hh; exact ⟨hh.1, h _ _ hh.2⟩
theorem getD_set {l : Array Bool} {i : Nat} (hi : i < l.size) (k : Nat) : (l.setIfInBounds i true).getD k false = if k = i then true else l.getD k false := by
 simp only [Array.getD_eq_getD_getElem?]
 by_cases hk : k = i
 ·subst hk; simp [hi]
 ·rw [if_neg hk, Array.getElem?_setIfInBounds_ne (Ne.symm hk)]
theorem Down.set {l : Array Bool} (hd : Down ops fun k => l.getD k false) {i : Nat} (hi : i < l.size) {y : Oper} (hy : ops.toList[i]? = some y)
  (hr : ∀ e ∈ y.after.toList, Region.binds .any e = true → l.getD e.on false = true) : Down ops fun k => (l.setIfInBounds i true).getD k false := by
 intro k o ho hk e he hb
 simp only [getD_set hi] at hk ⊢
 split
 ·rfl
 ·split at hk
  ·rename_i q; subst q; rw [hy] at ho; cases ho; exact hr e he hb
  ·exact hd k o ho hk e he hb
theorem any_chain {c : Nat} (hc : Cut ops c) : ∀ (fuel q : Nat) (l : Array Bool) (a : Act) (w : World), c ≤ q → q ≤ ops.size → l.size = ops.size → (∀ k, l.getD k false = decide (k < q)) → (Down ops fun k => l.getD k false) → ops.size - q ≤ fuel →
  wpListIn F m P ops Q (ops.toList.drop q) a w → wpAnyIn F m P .any ops Q fuel l a w := by
 intro fuel
 induction fuel with
 | zero =>
  intro q l a w hcq hq hs hl hd hf h
  have hq' : q = ops.size := by omega
  subst hq'
  rw [List.drop_of_length_le (by simp)] at h
  refine ⟨?_, h⟩
  cases e : Region.ready .any ops l with
  | nil => rfl
  | cons i rest =>
   exfalso
   have : i ∈ Region.ready .any ops l := by rw [e]; exact List.mem_cons_self
   obtain ⟨h1, y, hy, _⟩ := mem_ready.1 this
   have hin : i < ops.size := by simpa using (List.getElem?_eq_some_iff.1 hy).1
   have h2 := hl i
   rw [Array.getD_eq_getD_getElem?, Array.getElem?_eq_getElem (by omega)] at h1 h2
   simp only [Option.getD_some] at h1 h2
   rw [h1] at h2; simp [hin] at h2
 | succ fuel ih =>
  intro q l a w hcq hq hs hl hd hf h
  refine ⟨fun hrd => ?_, fun i hi => ?_⟩
  ·by_cases hq' : q = ops.size
   ·subst hq'; rw [List.drop_of_length_le (by simp)] at h; exact h
   ·exact absurd hrd (ready_some hc hs (k := q) (by omega) (by rw [hl]; simp))
  ·obtain ⟨h1, y, hy, hr⟩ := mem_ready.1 hi
   have hin : i < ops.size := by simpa using (List.getElem?_eq_some_iff.1 hy).1
   have hiq : i = q := by
    have h2 := hl i
    rw [Array.getD_eq_getD_getElem?, Array.getElem?_eq_getElem (by omega)] at h1 h2
    simp only [Option.getD_some] at h1 h2
    rw [h1] at h2
    have h3 : ¬ i < q := by simpa using h2.symm
    have h4 := ready_below hc hd hi (by omega)
    by_cases h5 : q < i
    ·have := h4 q h5; rw [hl] at this; simp at this
    ·omega
   subst hiq
   have hdr : ops.toList.drop i = y :: ops.toList.drop (i + 1) := by
    obtain ⟨hlt, e⟩ := List.getElem?_eq_some_iff.1 hy
    rw [List.drop_eq_getElem_cons hlt, e]
   rw [hdr] at h
   have hy' : ops[i]? = some y := by rw [← Array.getElem?_toList]; exact hy
   have hnext : ∀ a w, wpListIn F m P ops Q (ops.toList.drop (i + 1)) a w → wpAnyIn F m P .any ops Q fuel (l.setIfInBounds i true) a w := fun a w h =>
    ih (i + 1) _ a w (by omega) (by omega) (by simpa using hs) (fun k => by
     rw [getD_set (by omega)]
     split
     ·rename_i e; subst e; simp
     ·rename_i e; rw [hl]; congr 1; exact propext (by omega)) (hd.set (by omega) hy hr) (by omega) h
   simp only [wpListIn] at h
   unfold wpOpIn
   rw [hy']
   simp only
   split
   ·rename_i hw; rw [if_pos hw] at h; exact Oper.wpIn_mono hnext h
   ·rename_i hw; rw [if_neg hw] at h; exact ⟨h.1, hnext _ _ h.2⟩
theorem any_split {c : Nat} (hc : Cut ops c) {P2 : Act → World → Prop} (hP : ∀ a w, P2 a w → wpListIn F m P ops Q (ops.toList.drop c) a w) :
  ∀ (fuel fA : Nat) (la l : Array Bool) (a : Act) (w : World), l.size = ops.size → la.size = c → (∀ k, k < c → l.getD k false = la.getD k false) → (∀ k, c ≤ k → l.getD k false = false) → (Down ops fun k => l.getD k false) →
   unl l.toList ≤ fuel → wpAnyIn F m P .any ⟨ops.toList.take c⟩ (fun e a w => e = .normal ∧ P2 a w) fA la a w → wpAnyIn F m P .any ops Q fuel l a w := by
 have hcl : c < ops.size := by have := hc.lt; simpa using this
 -- all of the first part listed
 have fin : ∀ (fuel fA : Nat) (la l : Array Bool) (a : Act) (w : World), l.size = ops.size → la.size = c → (∀ k, k < c → l.getD k false = la.getD k false) → (∀ k, c ≤ k → l.getD k false = false) → (Down ops fun k => l.getD k false) →
   unl l.toList ≤ fuel → (∀ k, k < c → l.getD k false = true) → wpAnyIn F m P .any ⟨ops.toList.take c⟩ (fun e a w => e = .normal ∧ P2 a w) fA la a w → wpAnyIn F m P .any ops Q fuel l a w := by
  intro fuel fA la l a w hs hsa he hz hd hu hall h
  have hl : ∀ k, l.getD k false = decide (k < c) := by
   intro k
   by_cases hk : k < c
   ·rw [hall k hk]; simp [hk]
   ·rw [hz k (by omega)]; simp [hk]
  have hrd : Region.ready .any ⟨ops.toList.take c⟩ la = [] := by
   cases e : Region.ready .any ⟨ops.toList.take c⟩ la with
   | nil => rfl
   | cons i rest =>
    exfalso
    have : i ∈ Region.ready .any ⟨ops.toList.take c⟩ la := by rw [e]; exact List.mem_cons_self
    obtain ⟨h1, y, hy, _⟩ := mem_ready.1 this
    have hin : i < c := by
     have := (List.getElem?_eq_some_iff.1 hy).1
     simp only [List.length_take] at this; omega
    have h2 := he i hin
    rw [hall i hin] at h2
    rw [Array.getD_eq_getD_getElem?, Array.getElem?_eq_getElem (by omega)] at h1 h2
    simp only [Option.getD_some] at h1 h2
    rw [h1] at h2; cases h2
  have h2 : P2 a w := by
   cases fA with
   | zero => exact h.2.2
   | succ fA => exact (h.1 hrd).2
  refine any_chain hc fuel c l a w (Nat.le_refl _) (by omega) hs hl hd ?_ (hP a w h2)
  -- the fuel
  have : ∀ (x : List Bool) (q : Nat), (∀ k, q ≤ k → k < x.length → x[k]? = some false) → x.length - q ≤ unl x := by
   intro x
   induction x with
   | nil => intro q _; simp [unl]
   | cons b x ihx =>
    intro q hq
    cases q with
    | zero =>
     have h0 := hq 0 (by omega) (by simp)
     simp at h0; subst h0
     have := ihx 0 (fun k _ hk => by have := hq (k + 1) (by omega) (by simpa using hk); simpa using this)
     simp only [unl, List.filter_cons, Bool.not_false, if_true, List.length_cons] at this ⊢; omega
    | succ q =>
     have := ihx q (fun k h1 hk => by have := hq (k + 1) (by omega) (by simpa using hk); simpa using this)
     simp only [unl, List.filter_cons, List.length_cons] at this ⊢
     split
     ·simp only [List.length_cons]; omega
     ·omega
  have := this l.toList c (fun k h1 h2 => by
   have h3 := hz k h1
   have h4 : k < l.size := by simpa using h2
   rw [Array.getD_eq_getD_getElem?, Array.getElem?_eq_getElem h4] at h3
   rw [Array.getElem?_toList, Array.getElem?_eq_getElem h4]
   exact congrArg some h3)
  have hll : l.toList.length = ops.size := by simpa using hs
  omega
 intro fuel
 induction fuel with
 | zero =>
  intro fA la l a w hs hsa he hz hd hu h
  exfalso
  have := unl_zero _ (Nat.le_zero.1 hu) c (by simpa [hs] using hcl)
  have h2 := hz c (Nat.le_refl _)
  rw [Array.getD_eq_getD_getElem?, ← Array.getElem?_toList, this] at h2
  cases h2
 | succ fuel ih =>
  intro fA la l a w hs hsa he hz hd hu h
  by_cases hall : ∀ k, k < c → l.getD k false = true
  ·exact fin (fuel + 1) fA la l a w hs hsa he hz hd hu hall h
  ·refine ⟨fun hrd => absurd hrd (ready_some hc hs hcl (hz c (Nat.le_refl _))), fun i hi => ?_⟩
   have hic : i < c := by
    apply Classical.byContradiction
    intro hic
    exact hall fun k hk => ready_below hc hd hi (by omega) k (by omega)
   obtain ⟨h1, y, hy, hr⟩ := mem_ready.1 hi
   have hia : i ∈ Region.ready .any ⟨ops.toList.take c⟩ la := by
    refine mem_ready.2 ⟨?_, y, ?_, fun e hee hb => ?_⟩
    ·have h2 := he i hic
     rw [Array.getD_eq_getD_getElem?, Array.getElem?_eq_getElem (by omega)] at h1 h2 ⊢
     rw [Array.getD_eq_getD_getElem?, Array.getElem?_eq_getElem (by omega)] at h2
     simp only [Option.getD_some] at h1 h2 ⊢
     rw [← h2, h1]
    ·simp only; rw [List.getElem?_take, if_pos hic]; exact hy
    ·have hlt := hc.back i y hy e hee hb
     rw [← he e.on (by omega)]; exact hr e hee hb
   cases fA with
   | zero => rw [h.1] at hia; cases hia
   | succ fA =>
    refine wpOpIn_take hc hic (fun a w h => ?_) (fun e a w h => h.1) (h.2 i hia)
    refine ih fA _ _ a w (by simpa using hs) (by simpa using hsa) (fun k hk => ?_) (fun k hk => ?_) (hd.set (by omega) hy hr) ?_ h
    ·rw [getD_set (by omega), getD_set (by omega), he k hk]
    ·rw [getD_set (by omega), if_neg (by omega)]; exact hz k hk
    ·have hlf : l.toList[i]? = some false := by
      rw [Array.getD_eq_getD_getElem?, Array.getElem?_eq_getElem (by omega)] at h1
      rw [Array.getElem?_toList, Array.getElem?_eq_getElem (by omega)]
      exact congrArg some h1
     have := unl_set l.toList i hlf
     rw [Array.toList_setIfInBounds]
     omega
end
section
variable {E : Env} {P : Program} {esc esc' : Nat → Bool} {n : Nat} {I0 : Inj} {H0 : Heap} {w0 : World} {nt : Cx} {ops : Array Oper} {Q : Exit → Act → World → Prop}
variable {β : Nat → Option Nat} {I : Inj} {H : Heap} {w : World} {S : St} {a : Act} {ro : Option Nat}
theorem draw_cut (hE : EnvOk P E) (hm : P.follows .mixedOrders = true) {id c : Nat} (hc : cutOk ops c = true) {K : St → M Leaf} {r : Leaf × Heap} (hd : ∀ o ∈ ops.toList, ∀ d, o.dst = some d → d < nt.nt ∧ ∀ b ∈ nt.bars, d ∈ b.T)
  {sn : Bool} {pub : List Nat} (h : denOpsT E P esc ⟨ops.toList.take c⟩ sn (ops.toList.take c) [] [] S (fun S' cls hs => gd (drawOk ⟨ops.toList.take c⟩ cls) (sameM sn cls (ahead (ops.toList.take c) []) hs (pubD pub S' fun S' => denOps E P esc' ops (ops.toList.drop c) S' K))) H n = some r)
  (hI : Inv E P I0 H0 w0 nt β I H w S a) (hQ : Post E P I0 H0 w0 nt K n r (Q .normal)) : (Code.region id ops true).wpIn (FW ro) 0 P Q a w := by
 have hC := cut_spec hc
 have hA := draw_wp (ro := ro) (ops := ⟨ops.toList.take c⟩) (Q := fun e a w => e = .normal ∧ wpListIn (FW ro) 0 P ops Q (ops.toList.drop c) a w) hE (fun o ho => hd o (List.mem_of_mem_take ho)) h hI
  (fun β I H w S a h hI => ⟨rfl, ops_ok hE hQ _ (fun o ho => hd o (List.mem_of_mem_drop ho)) h hI⟩)
 have hsz : (⟨ops.toList.take c⟩ : Array Oper).size = c := by
  have := hC.lt
  simp only [List.size_toArray, List.length_take]; omega
 have hz : ∀ (s k : Nat), (Array.replicate s false).getD k false = false := by
  intro s k
  rw [Array.getD_eq_getD_getElem?]
  by_cases hk : k < s
  ·simp [hk]
  ·simp [hk]
 refine wpIn_region_any hm (any_split hC (P2 := wpListIn (FW ro) 0 P ops Q (ops.toList.drop c)) (fun _ _ h => h) ops.size _ _ _ a _ (by simp) (by rw [hsz]; simp) (fun k _ => by rw [hz, hz]) (fun k _ => hz _ _) (fun k o _ hk => ?_) ?_ hA)
 ·have := hz ops.size k
  simp only at hk
  rw [this] at hk; cases hk
 ·simp [unl]
end
end Go.Proofs.YtbphjihgbenkdaaGreat.HQ
