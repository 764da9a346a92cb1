/- What an operation answers hangs on its operands, and on what it touches. Conditions: none (lemmas). -/
import Derived.Test.YtijppadieomnjaaHMQ
namespace Go.Proofs.Ytijppadieomnjaa.HM
open Go
set_option linter.unusedSectionVars false
variable [Sites]
section
variable {E : Env} {P : Program} {esc : Nat → Bool} {n : Nat} {H : Heap}

/-- an operation that reads nothing but its operands. -/
def Pure (E : Env) (P : Program) (esc : Nat → Bool) (o : Oper) (S : St) (n : Nat) (sv : SV) : Prop :=
  ∀ {α : Type} (K : SV → St → M α) (S2 : St) (H2 : Heap), (∀ x ∈ o.op.operands.toList, S2.ev E x = S.ev E x) → opD E P esc o S2 K H2 n = K sv S2 H2 n

/-- a box that was written. -/
def wrB (d : Option Nat) (wc : List HV) (B : Bx) : Bx := match d with
  | some d => .set d wc B
  | none => B
theorem wrB_get (d : Option Nat) (wc : List HV) (B : Bx) (e : Nat) : (wrB d wc B).get e = if d = some e then some wc else B.get e := by
  cases d with
  | none => simp [wrB]
  | some d =>
    simp only [wrB, Bx.get, Option.some.injEq]
    by_cases h : e = d
    · subst h; simp
    · have : Nat.beq e d = false := by
        cases hb : Nat.beq e d
        · rfl
        · exact absurd (Nat.eq_of_beq_eq_true hb) h
      rw [this, if_neg (Ne.symm h)]
theorem wrB_under (d : Option Nat) (wc : List HV) (B : Bx) (lv : Nat) : Bx.under lv (wrB d wc B) = Bx.under lv B := by
  cases d <;> rfl
/-- what an operation does, whatever follows. -/
def Does (E : Env) (P : Program) (esc : Nat → Bool) (o : Oper) (S : St) (H : Heap) (n : Nat) (sv : SV) (wc : List HV) (H' : Heap) : Prop :=
  ((clOf E esc o S).wH = false → H' = H) ∧
  ∀ {α : Type} (K : SV → St → M α) (S2 : St) (H2 : Heap), (∀ x ∈ o.op.operands.toList, S2.ev E x = S.ev E x) →
    (∀ d, (clOf E esc o S).rB = some d ∨ (clOf E esc o S).wB = some d → S2.B.get d = S.B.get d) → ((clOf E esc o S).rH = true ∨ (clOf E esc o S).wH = true → H2 = H) →
    opD E P esc o S2 K H2 n = K sv ⟨S2.F, wrB (clOf E esc o S).wB wc S2.B⟩ (cond (clOf E esc o S).wH H' H2) n

theorem Does.of_pure {o : Oper} {S : St} {sv : SV} (h : Pure E P esc o S n sv) (hc : clOf E esc o S = Cl.no) : Does E P esc o S H n sv [] H := by
  refine ⟨fun _ => rfl, fun K S2 H2 he _ _ => ?_⟩
  rw [hc]; exact h K S2 H2 he

theorem gd_true {α : Type} {b : Bool} {m : M α} (h : b = true) (H : Heap) (n : Nat) : gd b m H n = m H n := by subst h; rfl
theorem mP_eq {α : Type} {p : Option (Nat × Nat)} {b o : Nat} {f : Nat → Nat → M α} (h : p = some (b, o)) (H : Heap) (n : Nat) : mP p f H n = f b o H n := by subst h; rfl

theorem Sc.d_eq {α : Type} {s : Sc} {x : HV} {K : HV → M α} {r : α × Heap} (h : s.d x K H n = some r) : ∀ {β : Type} (K' : HV → M β) (H' : Heap), s.d x K' H' n = K' x H' n := by
  intro β K' H'
  cases s <;> simp only [Sc.d] at h ⊢
  · cases x <;> simp only [asI] at h ⊢ <;> first | exact (stk_some h).elim | skip
    obtain ⟨g, _⟩ := gd_some h
    rw [gd_true g]
    have := of_decide_eq_true g; subst this; rfl
  · cases x <;> simp only [asB] at h ⊢ <;> exact (stk_some h).elim
  · cases x <;> simp only [asS] at h ⊢ <;> exact (stk_some h).elim
  · cases x <;> simp only [asP] at h ⊢ <;> exact (stk_some h).elim
  · cases x <;> simp only [asSl] at h ⊢ <;> exact (stk_some h).elim
theorem Sc.ds_eq {l : List Sc} : ∀ {α : Type} {x : List HV} {K : List HV → M α} {r : α × Heap}, Sc.ds l x K H n = some r → ∀ {β : Type} (K' : List HV → M β) (H' : Heap), Sc.ds l x K' H' n = K' x H' n := by
  induction l with
  | nil =>
    intro α x K r h β K' H'
    cases x with
    | nil => rfl
    | cons v x => exact (stk_some (H := H) (n := n) (r := r) h).elim
  | cons s l ih =>
    intro α x K r h β K' H'
    cases x with
    | nil => exact (stk_some (H := H) (n := n) (r := r) h).elim
    | cons v x =>
      replace h : s.d v (fun v' => Sc.ds l x fun vs' => K (v' :: vs')) H n = some r := h
      show s.d v (fun v' => Sc.ds l x fun vs' => K' (v' :: vs')) H' n = _
      rw [Sc.d_eq h]
      exact ih (Sc.d_some h) _ _
theorem Sh1.d_eq {α : Type} {s : Sh1} {x : HV} {K : HV → M α} {r : α × Heap} (h : s.d x K H n = some r) : ∀ {β : Type} (K' : HV → M β) (H' : Heap), s.d x K' H' n = K' x H' n := by
  intro β K' H'
  cases s <;> simp only [Sh1.d] at h ⊢
  · exact Sc.d_eq h K' H'
  · cases x <;> simp only [asA] at h ⊢ <;> first | exact (stk_some h).elim | exact Sc.ds_eq h _ _
  · cases x <;> simp only [asA] at h ⊢ <;> exact (stk_some h).elim
theorem Sh1.ds_eq {l : List Sh1} : ∀ {α : Type} {x : List HV} {K : List HV → M α} {r : α × Heap}, Sh1.ds l x K H n = some r → ∀ {β : Type} (K' : List HV → M β) (H' : Heap), Sh1.ds l x K' H' n = K' x H' n := by
  induction l with
  | nil =>
    intro α x K r h β K' H'
    cases x with
    | nil => rfl
    | cons v x => exact (stk_some (H := H) (n := n) (r := r) h).elim
  | cons s l ih =>
    intro α x K r h β K' H'
    cases x with
    | nil => exact (stk_some (H := H) (n := n) (r := r) h).elim
    | cons v x =>
      replace h : s.d v (fun v' => Sh1.ds l x fun vs' => K (v' :: vs')) H n = some r := h
      show s.d v (fun v' => Sh1.ds l x fun vs' => K' (v' :: vs')) H' n = _
      rw [Sh1.d_eq h]
      exact ih (Sh1.d_some h) _ _
theorem Sh.d_eq {α : Type} {s : Sh} {x : HV} {K : HV → M α} {r : α × Heap} (h : s.d x K H n = some r) : ∀ {β : Type} (K' : HV → M β) (H' : Heap), s.d x K' H' n = K' x H' n := by
  intro β K' H'
  cases s <;> simp only [Sh.d] at h ⊢
  · exact Sh1.d_eq h K' H'
  · cases x <;> simp only [asT] at h ⊢ <;> first | exact (stk_some h).elim | exact Sh1.ds_eq h _ _

theorem partA_eq {α : Type} {t : TypeId} {cs : List HV} {off : Nat} {K : HV → M α} {r : α × Heap} (h : partA P t cs off K H n = some r) :
    ∃ hv, K hv H n = some r ∧ ∀ {β : Type} (K' : HV → M β) (H' : Heap), partA P t cs off K' H' n = K' hv H' n := by
  replace h : app (partA P t cs off K) H n = some r := h
  unfold partA at h
  split at h
  · rename_i e
    obtain ⟨h1, h2⟩ := gxN_some h
    refine ⟨_, Sh1.d_some h2, fun K' H' => ?_⟩
    simp only [partA, e]
    unfold gxN
    rw [gd_true (by simpa using h1)]
    exact Sh1.d_eq h2 K' H'
  · rename_i e
    obtain ⟨v, h1, h2⟩ := gx_some h
    refine ⟨_, Sh1.d_some h2, fun K' H' => ?_⟩
    simp only [partA, e]
    unfold gx
    rw [h1]
    exact Sh1.d_eq h2 K' H'
  · exact (stk_some h).elim

/-- a text that only goes on with a value. -/
def Goes (f : ∀ {α : Type}, (SV → St → M α) → St → M α) (H : Heap) (n : Nat) : Prop :=
  ∀ {α : Type} {K : SV → St → M α} {S : St} {r : α × Heap}, f K S H n = some r → ∃ sv, K sv S H n = some r ∧ ∀ {β : Type} (K' : SV → St → M β) (S' : St) (H' : Heap), f K' S' H' n = K' sv S' H' n

theorem goes_bin (op : BinOp) (t : TypeId) (x y : SV) : Goes (fun K S => binD P op t x y S K) H n := by
  intro α K S r h
  replace h : app (binD P op t x y S K) H n = some r := h
  unfold binD at h
  split at h
  · rename_i va vb
    split at h
    · rename_i g v hs
      obtain ⟨hg, h⟩ := gd_some h
      exact ⟨_, h, fun K' S' H' => by simp only [binD, hs]; exact gd_true hg _ _⟩
    rename_i hsn
    split at h
    · rename_i ua ub ea eb
      split at h
      · rename_i rv hq
        split at h
        · rename_i hh hb
          exact ⟨_, h, fun K' S' H' => by simp only [binD, hsn, ea, eb, hq, hb]⟩
        · exact (stk_some h).elim
      · exact (stk_some h).elim
    · rename_i hne
      split at h
      · split at h
        · rename_i hp; exact ⟨_, h, fun K' S' H' => by simp only [binD, hsn, toV, hp]⟩
        · exact (stk_some h).elim
      · split at h
        · rename_i hp; exact ⟨_, h, fun K' S' H' => by simp only [binD, hsn, toV, hp]⟩
        · exact (stk_some h).elim
      · split at h
        · rename_i hp; exact ⟨_, h, fun K' S' H' => by simp only [binD, hsn, toV, hp]⟩
        · exact (stk_some h).elim
      · split at h
        · rename_i hp; exact ⟨_, h, fun K' S' H' => by simp only [binD, hsn, toV, hp]⟩
        · exact (stk_some h).elim
      · split at h
        · rename_i hsc
          split at h
          · rename_i e he; exact ⟨_, h, fun K' S' H' => by simp only [binD, hsn, toV, hsc, he]⟩
          · rename_i he
            split at h
            · rename_i sh hs
              obtain ⟨e, hq, h⟩ := eqM_some h
              exact ⟨_, h, fun K' S' H' => by simp only [binD, hsn, toV, hsc, he, hs, eqM, hq]⟩
            · exact (stk_some h).elim
        · rename_i hsc
          split at h
          · rename_i sh hs
            obtain ⟨e, hq, h⟩ := eqM_some h
            exact ⟨_, h, fun K' S' H' => by simp only [binD, hsn, toV, hsc, hs, eqM, hq]⟩
          · exact (stk_some h).elim
      · split at h
        · rename_i hsc
          split at h
          · rename_i e he; exact ⟨_, h, fun K' S' H' => by simp only [binD, hsn, toV, hsc, he]⟩
          · rename_i he
            split at h
            · rename_i sh hs
              obtain ⟨e, hq, h⟩ := eqM_some h
              exact ⟨_, h, fun K' S' H' => by simp only [binD, hsn, toV, hsc, he, hs, eqM, hq]⟩
            · exact (stk_some h).elim
        · rename_i hsc
          split at h
          · rename_i sh hs
            obtain ⟨e, hq, h⟩ := eqM_some h
            exact ⟨_, h, fun K' S' H' => by simp only [binD, hsn, toV, hsc, hs, eqM, hq]⟩
          · exact (stk_some h).elim
      · exact (stk_some h).elim
  · exact (stk_some h).elim
theorem goes_un (op : UnOp) (x : SV) : Goes (fun K S => unD P op x S K) H n := by
  intro α K S r h
  replace h : app (unD P op x S K) H n = some r := h
  unfold unD at h
  split at h
  · split at h
    · rename_i ua ea
      split at h
      · rename_i rv hq
        split at h
        · rename_i hh hb
          exact ⟨_, h, fun K' S' H' => by simp only [unD, ea, hq, hb]⟩
        · exact (stk_some h).elim
      · exact (stk_some h).elim
    · exact (stk_some h).elim
  · exact (stk_some h).elim
theorem goes_conv (s d : TypeId) (x : SV) : Goes (fun K S => convD P s d x S K) H n := by
  intro α K S r h
  replace h : app (convD P s d x S K) H n = some r := h
  unfold convD at h
  split at h
  · split at h
    · rename_i h1 h2; exact ⟨_, h, fun K' S' H' => by simp only [convD, h1, h2]⟩
    · rename_i h1 h2; exact ⟨_, h, fun K' S' H' => by simp only [convD, h1, h2]⟩
    · exact (stk_some h).elim
  · exact (stk_some h).elim
theorem goes_len (t : TypeId) (x : SV) : Goes (fun K S => lenD P t x S K) H n := by
  intro α K S r h
  replace h : app (lenD P t x S K) H n = some r := h
  unfold lenD at h
  split at h
  · rename_i hu; exact ⟨_, h, fun K' S' H' => by simp only [lenD, hu]⟩
  · rename_i hu; exact ⟨_, h, fun K' S' H' => by simp only [lenD, hu]⟩
  · rename_i hu; exact ⟨_, h, fun K' S' H' => by simp only [lenD, hu]⟩
  · rename_i hu; exact ⟨_, h, fun K' S' H' => by simp only [lenD, hu]⟩
  · exact (stk_some h).elim
theorem goes_idx (t : TypeId) (x i : SV) : Goes (fun K S => idxD P t x i S K) H n := by
  intro α K S r h
  replace h : app (idxD P t x i S K) H n = some r := h
  unfold idxD at h
  split at h
  · split at h
    · rename_i e s hu
      split at h
      · rename_i inf hi
        obtain ⟨g1, h⟩ := gd_some h
        obtain ⟨g2, h⟩ := gd_some h
        obtain ⟨b, o, hp, h⟩ := mP_some h
        exact ⟨_, h, fun K' S' H' => by simp only [idxD, hu, hi]; unfold ix; rw [gd_true g1, gd_true g2, mP_eq hp]⟩
      · exact (stk_some h).elim
    · rename_i m e d off hu
      split at h
      · rename_i inf hi
        obtain ⟨g1, h⟩ := gd_some h
        obtain ⟨g2, h⟩ := gd_some h
        exact ⟨_, h, fun K' S' H' => by simp only [idxD, hu, hi]; rw [gd_true g1, gd_true g2]⟩
      · exact (stk_some h).elim
    · rename_i m e p hu
      split at h
      · rename_i inf hi
        obtain ⟨b, o, hp, h⟩ := mP_some h
        obtain ⟨g1, h⟩ := gd_some h
        obtain ⟨g2, h⟩ := gd_some h
        exact ⟨_, h, fun K' S' H' => by simp only [idxD, hu, hi]; rw [mP_eq hp, gd_true g1, gd_true g2]⟩
      · exact (stk_some h).elim
    · exact (stk_some h).elim
  · exact (stk_some h).elim
theorem goes_slc (t : TypeId) (x : SV) (lo hi mx : Option SV) : Goes (fun K S => slcD P t x lo hi mx S K) H n := by
  intro α K S r h
  replace h : app (slcD P t x lo hi mx S K) H n = some r := h
  unfold slcD at h
  split at h
  · rename_i e s hu
    split at h
    · rename_i l hh m e1 e2 e3
      split at h
      · rename_i inf hinf
        obtain ⟨g0, h⟩ := gd_some h
        obtain ⟨g1, h⟩ := gd_some h
        obtain ⟨g2, h⟩ := gd_some h
        obtain ⟨g3, h⟩ := gd_some h
        obtain ⟨g4, h⟩ := gd_some h
        exact ⟨_, h, fun K' S' H' => by simp only [slcD, hu, e1, e2, e3, hinf]; rw [gd_true g0, gd_true g1, gd_true g2, gd_true g3, gd_true g4]⟩
      · exact (stk_some h).elim
    · exact (stk_some h).elim
  · rename_i s hu
    split at h
    · rename_i l hh e1 e2
      obtain ⟨g0, h⟩ := gd_some h
      obtain ⟨g1, h⟩ := gd_some h
      obtain ⟨g2, h⟩ := gd_some h
      exact ⟨_, h, fun K' S' H' => by simp only [slcD, hu, e1, e2]; rw [gd_true g0, gd_true g1, gd_true g2]⟩
    · exact (stk_some h).elim
  · exact (stk_some h).elim
end
end Go.Proofs.Ytijppadieomnjaa.HM
