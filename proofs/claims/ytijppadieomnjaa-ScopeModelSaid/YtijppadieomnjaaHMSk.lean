/- Two blocks that are alike in what is read. Conditions: none (lemmas). -/
import Derived.Test.YtijppadieomnjaaHMMk
import Derived.Test.YtijppadieomnjaaHMPc
import Derived.Test.YtijppadieomnjaaHMTb
import Derived.Test.YtijppadieomnjaaHMMq
import Derived.Test.YtijppadieomnjaaHMPf
namespace Go.Proofs.Ytijppadieomnjaa.HM
open Go

/-- things are alike: these cells, files, places. -/
structure AlT (C F P : Nat → Prop) (t1 t2 : Th) : Prop where
  c : ∀ i, C i → t1.c i = t2.c i
  f : ∀ i, F i → t1.f i = t2.f i
  p : ∀ i, P i → t1.p i = t2.p i
section
variable {C F P : Nat → Prop} {t1 t2 : Th}
theorem AlT.updC (h : AlT C F P t1 t2) (k : Nat) (v : Int) : AlT C F P { t1 with c := updI t1.c k v } { t2 with c := updI t2.c k v } :=
  ⟨fun i hi => by show updI _ _ _ i = updI _ _ _ i; unfold updI; split; · rfl
                  exact h.c i hi, h.f, h.p⟩
theorem AlT.updF (h : AlT C F P t1 t2) (k : Nat) {a b : Fil} (e : F k → a = b) : AlT C F P { t1 with f := HM.updF t1.f k a } { t2 with f := HM.updF t2.f k b } :=
  ⟨h.c, fun i hi => by
    show HM.updF _ _ _ i = HM.updF _ _ _ i
    unfold HM.updF
    split
    · rename_i hk; subst hk; exact e hi
    · exact h.f i hi, h.p⟩
theorem doF_alk {c : Ins} {r : Nat → Int} {tx : Nat → ByteArray} (hr : RngB c) (h : AlT C F P t1 t2) (hd : (deedF c r).2.1 = true)
    (h0 : ∀ i, rdP c 0 i → C i) (h1 : ∀ i, rdP c 1 i → F i) (h2 : ∀ i, rdP c 2 i → P i) :
    (doF t1 tx (deedF c r).1).1 = (doF t2 tx (deedF c r).1).1 ∧ AlT C F P (doF t1 tx (deedF c r).1).2 (doF t2 tx (deedF c r).1).2 := by
  have h6 := hr.h6
  have h8 := hr.h8
  have h9 := hr.h9
  have h10 := hr.h10
  have h12 := hr.h12
  have h14 := hr.h14
  unfold deedF at hd ⊢
  split at hd
  · rename_i e; rw [if_pos e]
    have := h6 e
    exact ⟨h.c c.b.toNat (h0 _ (.inl ⟨e, rfl, by omega⟩)), h⟩
  rename_i e; rw [if_neg e]
  split at hd
  · rename_i e; rw [if_pos e]
    exact ⟨rfl, h.updC _ _⟩
  rename_i e; rw [if_neg e]
  split at hd
  · rename_i e; rw [if_pos e]
    have := h8 e
    refine ⟨?_, h⟩
    show atF (t1.f c.b.toNat).2 c.c = atF (t2.f c.b.toNat).2 c.c
    rw [h.f _ (h1 _ (.inr (.inl ⟨e, rfl, by omega⟩)))]
  rename_i e; rw [if_neg e]
  split at hd
  · rename_i e; rw [if_pos e]
    exact ⟨rfl, h.updF _ fun hk => by rw [h.f _ hk]⟩
  rename_i e; rw [if_neg e]
  split at hd
  · rename_i e; rw [if_pos e]
    exact ⟨rfl, h.updF _ fun hk => by rw [h.f _ hk]⟩
  rename_i e; rw [if_neg e]
  split at hd
  · rename_i e; rw [if_pos e]
    exact ⟨rfl, h.updF _ fun _ => rfl⟩
  rename_i e; rw [if_neg e]
  split at hd
  · rename_i e; rw [if_pos e]
    have := h12 e
    have ha := h.f _ (h1 c.a.toNat (.inr (.inr (.inr (.inl ⟨e, rfl, .inl (by omega)⟩)))))
    have hb := h.f _ (h1 c.b.toNat (.inr (.inr (.inr (.inl ⟨e, rfl, .inr (by omega)⟩)))))
    refine ⟨rfl, h.c, fun i hi => ?_, h.p⟩
    show renF t1.f c.a.toNat c.b.toNat i = renF t2.f c.a.toNat c.b.toNat i
    unfold renF
    rw [ha]
    split
    · unfold HM.updF
      split
      · rfl
      · split
        · rfl
        · exact h.f i hi
    · exact h.f i hi
  rename_i e; rw [if_neg e]
  split at hd
  · rename_i e; rw [if_pos e]
    exact ⟨rfl, h.updF _ fun hk => by rw [h.f _ hk]⟩
  rename_i e; rw [if_neg e]
  split at hd
  · rename_i e; rw [if_pos e]
    have := h14 e
    have hp := h.p _ (h2 c.b.toNat (.inr (.inr (.inr (.inr ⟨e, rfl, by omega⟩)))))
    unfold doF
    simp only
    rw [if_neg (by omega), if_neg (by omega), if_neg (by omega), if_neg (by omega), if_neg (by omega), if_neg (by omega), if_neg (by omega), if_neg (by omega)]
    rw [hp]
    split
    · refine ⟨rfl, h.c, h.f, fun i hi => ?_⟩
      show updI _ _ _ i = updI _ _ _ i
      unfold updI
      split
      · rfl
      · exact h.p i hi
    · exact ⟨rfl, h⟩
  · cases hd
end
end Go.Proofs.Ytijppadieomnjaa.HM
namespace Go.Proofs.Ytijppadieomnjaa.HM
open Go

/-- two states are alike. -/
structure Alk (C F P U : Nat → Prop) (T : Nat → Int → Int → Prop) (o1 o2 : Lo) : Prop where
  th : AlT C F P o1.th o2.th
  out : ∀ i, U i → o1.out i = o2.out i
  ta : ∀ i, T i (o1.ta i) (o2.ta i)
  tx : o1.tx = o2.tx
  la : o1.la = o2.la
  r : o1.r = o2.r
  pl : o1.pl = o2.pl
section
variable {C F P U : Nat → Prop} {T : Nat → Int → Int → Prop}
theorem Alk.setPl {o1 o2 : Lo} (h : Alk C F P U T o1 o2) {a b : Int} (e : a = b) : Alk C F P U T { o1 with pl := a } { o2 with pl := b } := ⟨h.th, h.out, h.ta, h.tx, h.la, h.r, e⟩
theorem Alk.nxt {o1 o2 : Lo} (h : Alk C F P U T o1 o2) : Alk C F P U T (nxt o1) (nxt o2) := h.setPl (by rw [h.pl])
inductive Alks (C F P U : Nat → Prop) (T : Nat → Int → Int → Prop) : List Lo → List Lo → Prop
  | nil : Alks C F P U T [] []
  | cons {o1 o2 w1 w2} (h : Alk C F P U T o1 o2) (hw : Alks C F P U T w1 w2) : Alks C F P U T (o1 :: w1) (o2 :: w2)
theorem alk_step {c : Ins} {o1 o2 : Lo} {w1 w2 : List Lo} (hT : ∀ i x y b, T i x y → T i (sumI x b) (sumI y b)) (hr : RngB c) (h : Alk C F P U T o1 o2) (hw : Alks C F P U T w1 w2)
    (h0 : ∀ i, rdP c 0 i → C i) (h1 : ∀ i, rdP c 1 i → F i) (h2 : ∀ i, rdP c 2 i → P i) :
    (stepB c o1 w1 = none ∧ stepB c o2 w2 = none) ∨ ∃ a b va vb, stepB c o1 w1 = some (a, va) ∧ stepB c o2 w2 = some (b, vb) ∧ Alk C F P U T a b ∧ Alks C F P U T va vb := by
  obtain ⟨t1, x1, u1, a1, l1, r1, p1⟩ := o1
  obtain ⟨t2, x2, u2, a2, l2, r2, p2⟩ := o2
  obtain ⟨hth, hou, hta, htx, hla, hrr, hpl⟩ := h
  simp only at hth hou hta htx hla hrr hpl
  subst htx hla hrr hpl
  unfold stepB
  cases hpf : plainF c p1 r1 with
  | some q =>
    obtain ⟨pl', r'⟩ := q
    exact .inr ⟨_, _, _, _, rfl, rfl, ⟨hth, hou, hta, rfl, rfl, rfl, rfl⟩, hw⟩
  | none =>
    simp only
    by_cases hd : (deedF c r1).2.1 = true
    · obtain ⟨e1, e2⟩ := doF_alk (tx := x1) hr hth hd h0 h1 h2
      rw [if_pos hd, if_pos hd, ← e1]
      by_cases hg : c.op = 14 ∧ (doF t1 x1 (deedF c r1).1).1 < 0
      · rw [if_pos hg, if_pos hg]; exact .inl ⟨rfl, rfl⟩
      · rw [if_neg hg, if_neg hg]
        exact .inr ⟨_, _, _, _, rfl, rfl, Alk.nxt ⟨e2, hou, hta, rfl, rfl, rfl, rfl⟩, hw⟩
    rw [if_neg hd, if_neg hd]
    by_cases e : c.op = 15
    · rw [if_pos e, if_pos e]
      refine .inr ⟨_, _, _, _, rfl, rfl, Alk.nxt ⟨hth, fun i hi => ?_, hta, rfl, rfl, rfl, rfl⟩, hw⟩
      show updS _ _ _ i = updS _ _ _ i
      unfold updS
      split
      · rename_i ei; subst ei; rw [hou _ hi]
      · exact hou i hi
    rw [if_neg e, if_neg e]
    by_cases e : c.op = 16
    · rw [if_pos e, if_pos e]
      exact .inr ⟨_, _, _, _, rfl, rfl, Alk.nxt ⟨hth, hou, hta, rfl, rfl, rfl, rfl⟩, hw⟩
    rw [if_neg e, if_neg e]
    by_cases e : c.op = 18
    · rw [if_pos e, if_pos e]
      refine .inr ⟨_, _, _, _, rfl, rfl, Alk.nxt ⟨hth, hou, fun i => ?_, rfl, rfl, rfl, rfl⟩, hw⟩
      show T i (updI _ _ _ i) (updI _ _ _ i)
      unfold updI
      split
      · rename_i ei; subst ei; exact hT _ _ _ _ (hta _)
      · exact hta i
    rw [if_neg e, if_neg e]
    by_cases e : c.op = 20
    · rw [if_pos e, if_pos e]
      exact .inr ⟨_, _, _, _, rfl, rfl, Alk.nxt ⟨hth, hou, hta, rfl, rfl, rfl, rfl⟩, .cons ⟨hth, hou, hta, rfl, rfl, rfl, rfl⟩ hw⟩
    rw [if_neg e, if_neg e]
    by_cases e : c.op = 19
    · rw [if_pos e, if_pos e]
      cases hw with
      | nil => exact .inl ⟨rfl, rfl⟩
      | cons h hw => exact .inr ⟨_, _, _, _, rfl, rfl, h, hw⟩
    rw [if_neg e, if_neg e]
    by_cases e : c.op = 21
    · rw [if_pos e, if_pos e]
      exact .inr ⟨_, _, _, _, rfl, rfl, Alk.nxt ⟨hth, hou, hta, rfl, rfl, rfl, rfl⟩, .nil⟩
    · rw [if_neg e, if_neg e]
      exact .inr ⟨_, _, _, _, rfl, rfl, Alk.nxt ⟨hth, hou, hta, rfl, rfl, rfl, rfl⟩, hw⟩
end
end Go.Proofs.Ytijppadieomnjaa.HM
namespace Go.Proofs.Ytijppadieomnjaa.HM
open Go

section
variable {C F P U T : Nat → Prop}
theorem AlT.rfl' (t : Th) : AlT C F P t t := ⟨fun _ _ => rfl, fun _ _ => rfl, fun _ _ => rfl⟩
/-- a deed leaves what it doesn't write. -/
theorem doF_frame {c : Ins} {r : Nat → Int} {tx : Nat → ByteArray} {t : Th} (hr : RngB c) (hd : (deedF c r).2.1 = true)
    (h0 : ∀ i, wrP c 0 i → ¬ C i) (h1 : ∀ i, wrP c 1 i → ¬ F i) (h2 : ∀ i, wrP c 2 i → ¬ P i) : AlT C F P t (doF t tx (deedF c r).1).2 := by
  have h7 := hr.h7
  have h9 := hr.h9
  have h10 := hr.h10
  have h12 := hr.h12
  have h14 := hr.h14
  have fil : ∀ (k : Nat) (x : Fil), ¬ F k → AlT C F P t { t with f := updF t.f k x } := fun k x hk => ⟨fun _ _ => rfl, fun i hi => by
    show t.f i = updF _ _ _ i
    unfold updF
    rw [if_neg (fun e => hk (by rw [← e]; exact hi))], fun _ _ => rfl⟩
  have wf : ∀ i : Nat, (c.op = 9 ∨ c.op = 10 ∨ c.op = 11 ∨ c.op = 13) → (i : Int) = c.a → ¬ F i := fun i ho hi => h1 i (.inr ⟨by omega, by omega, .inr (.inr (.inl ⟨ho, rfl, hi⟩))⟩)
  unfold deedF at hd ⊢
  split at hd
  · rename_i e; rw [if_pos e]; exact .rfl' t
  rename_i e; rw [if_neg e]
  split at hd
  · rename_i e; rw [if_pos e]
    have := h7 e
    refine ⟨fun i hi => ?_, fun _ _ => rfl, fun _ _ => rfl⟩
    show t.c i = updI t.c c.a.toNat _ i
    unfold updI
    rw [if_neg]
    intro ei
    exact h0 i (.inl ⟨e, rfl, by omega⟩) hi
  rename_i e; rw [if_neg e]
  split at hd
  · rename_i e; rw [if_pos e]; exact .rfl' t
  rename_i e; rw [if_neg e]
  split at hd
  · rename_i e; rw [if_pos e]
    have := h9 e
    exact fil c.a.toNat _ (wf _ (by omega) (by omega))
  rename_i e; rw [if_neg e]
  split at hd
  · rename_i e; rw [if_pos e]
    have := h10 (by omega)
    exact fil c.a.toNat _ (wf _ (by omega) (by omega))
  rename_i e; rw [if_neg e]
  split at hd
  · rename_i e; rw [if_pos e]
    have := h10 (by omega)
    exact fil c.a.toNat _ (wf _ (by omega) (by omega))
  rename_i e; rw [if_neg e]
  split at hd
  · rename_i e; rw [if_pos e]
    have := h12 e
    refine ⟨fun _ _ => rfl, fun i hi => ?_, fun _ _ => rfl⟩
    show t.f i = renF t.f c.a.toNat c.b.toNat i
    unfold renF
    split
    · unfold updF
      rw [if_neg, if_neg]
      · intro ei; exact h1 i (.inr ⟨by omega, by omega, .inr (.inr (.inr (.inl ⟨e, rfl, .inr (by omega)⟩)))⟩) hi
      · intro ei; exact h1 i (.inr ⟨by omega, by omega, .inr (.inr (.inr (.inl ⟨e, rfl, .inl (by omega)⟩)))⟩) hi
    · rfl
  rename_i e; rw [if_neg e]
  split at hd
  · rename_i e; rw [if_pos e]
    have := h10 (by omega)
    exact fil c.a.toNat _ (wf _ (by omega) (by omega))
  rename_i e; rw [if_neg e]
  split at hd
  · rename_i e; rw [if_pos e]
    have := h14 e
    unfold doF
    simp only
    rw [if_neg (by omega), if_neg (by omega), if_neg (by omega), if_neg (by omega), if_neg (by omega), if_neg (by omega), if_neg (by omega), if_neg (by omega)]
    split
    · refine ⟨fun _ _ => rfl, fun _ _ => rfl, fun i hi => ?_⟩
      show t.p i = updI _ _ _ i
      unfold updI
      rw [if_neg]
      intro ei; exact h2 i (.inr ⟨by omega, by omega, .inr (.inr (.inr (.inr ⟨e, rfl, by omega⟩)))⟩) hi
    · exact .rfl' t
  · cases hd
/-- where a step leads. -/
theorem step_pl {c : Ins} {o o' : Lo} {ws ws' : List Lo} (hs : stepB c o ws = some (o', ws')) :
    (o'.pl = wr (o.pl + 1) ∧ c.op ≠ 19 ∧ ¬ (c.op = 3 ∧ c.c = 2) ∧ ∀ w ∈ ws', w ∈ ws ∨ (c.op = 20 ∧ w.pl = c.a)) ∨ (c.op = 3 ∧ o'.pl = c.a ∧ ws' = ws) ∨ ws = o' :: ws' := by
  unfold stepB at hs
  cases hpf : plainF c o.pl o.r with
  | some q =>
    obtain ⟨pl', r'⟩ := q
    rw [hpf] at hs
    cases hs
    unfold plainF at hpf
    split at hpf
    · cases hpf; exact .inl ⟨rfl, by omega, by omega, fun w hw => .inl hw⟩
    split at hpf
    · cases hpf; exact .inl ⟨rfl, by omega, by omega, fun w hw => .inl hw⟩
    split at hpf
    · rename_i e3
      split at hpf
      · cases hpf; exact .inr (.inl ⟨e3, rfl, rfl⟩)
      · rename_i hg; cases hpf; exact .inl ⟨rfl, by omega, fun hh => hg (.inl hh.2), fun w hw => .inl hw⟩
    · cases hpf
  | none =>
    rw [hpf] at hs
    have h3 : c.op ≠ 3 := by
      intro e3
      unfold plainF at hpf
      rw [if_neg (by omega), if_neg (by omega), if_pos e3] at hpf
      split at hpf <;> cases hpf
    simp only at hs
    split at hs
    · rename_i hd
      have hop : c.op ≠ 19 := by intro e; unfold deedF at hd; simp [e] at hd
      split at hs
      · cases hs
      · cases hs; exact .inl ⟨rfl, hop, by omega, fun w hw => .inl hw⟩
    split at hs
    · cases hs; exact .inl ⟨rfl, by omega, by omega, fun w hw => .inl hw⟩
    split at hs
    · cases hs; exact .inl ⟨rfl, by omega, by omega, fun w hw => .inl hw⟩
    split at hs
    · cases hs; exact .inl ⟨rfl, by omega, by omega, fun w hw => .inl hw⟩
    split at hs
    · rename_i e
      cases hs
      refine .inl ⟨rfl, by omega, by omega, fun w hw => ?_⟩
      rcases List.mem_cons.1 hw with rfl | hw
      · exact .inr ⟨e, rfl⟩
      · exact .inl hw
    split at hs
    · cases ws with
      | nil => cases hs
      | cons w ws => cases hs; exact .inr (.inr rfl)
    split at hs
    · cases hs; exact .inl ⟨rfl, by omega, by omega, fun w hw => by simp at hw⟩
    · cases hs; exact .inl ⟨rfl, by omega, by omega, fun w hw => .inl hw⟩
def RchA (p : List Ins) (a : Nat) (o : Lo) (ws : List Lo) : Prop := Rch p a o.pl.toNat ∧ ∀ w ∈ ws, Rch p a w.pl.toNat
theorem step_rch {p : List Ins} (hc : CanB p) {at_ e k a : Nat} {o o' : Lo} {ws ws' : List Lo} {c : Ins} (he : EndAt p at_ e) (h : StOk p at_ e k o ws) (hr : RchA p a o ws) (hp : p[o.pl.toNat]? = some c) (hs : stepB c o ws = some (o', ws')) : RchA p a o' ws' := by
  obtain ⟨n, hpl, h1, h2, hn, hg, hrb⟩ := h.here hc he
  rw [hg] at hp; cases hp
  obtain ⟨i0, i4, i5⟩ := in_blk hc he h1 h2 hn
  have hlen := hc.len
  have hw : wr (o.pl + 1) = ((n + 1 : Nat) : Int) := by rw [hpl]; exact wr_small (by omega) (by omega)
  obtain ⟨r0, rw0⟩ := hr
  rw [hpl, Int.toNat_natCast] at r0
  have ha := hc.fwd.at_ hn
  have hgo : (p[n]).op = 3 ∨ (p[n]).op = 20 → Rch p a (p[n]).a.toNat := fun q => .step hn r0 ((nextL_iff ha).2 (.inr ⟨q, by have := ha q; omega⟩))
  rcases step_pl hs with ⟨q1, q2, q3, q4⟩ | ⟨q1, q2, rfl⟩ | rfl
  · refine ⟨?_, fun w hw' => ?_⟩
    · rw [q1, hw, Int.toNat_natCast]
      exact .step hn r0 ((nextL_iff ha).2 (.inl ⟨i0, q2, q3, rfl⟩))
    · rcases q4 w hw' with h | ⟨h, h'⟩
      · exact rw0 w h
      · rw [h']; exact hgo (.inr h)
  · exact ⟨by rw [q2]; exact hgo (.inl q1), rw0⟩
  · exact ⟨rw0 _ (by simp), fun w hw' => rw0 w (by simp [hw'])⟩
end
end Go.Proofs.Ytijppadieomnjaa.HM
namespace Go.Proofs.Ytijppadieomnjaa.HM
open Go

section
variable {C F P U T : Nat → Prop}
theorem runs_alk {T : Nat → Int → Int → Prop} {p : List Ins} (hc : CanB p) {at_ e : Nat} (he : EndAt p at_ e) (hT : ∀ i x y b, T i x y → T i (sumI x b) (sumI y b)) {a : Nat}
    (h0 : ∀ n (hn : n < p.length), n ≤ e → Rch p a n → ∀ i, rdP p[n] 0 i → C i) (h1 : ∀ n (hn : n < p.length), n ≤ e → Rch p a n → ∀ i, rdP p[n] 1 i → F i) (h2 : ∀ n (hn : n < p.length), n ≤ e → Rch p a n → ∀ i, rdP p[n] 2 i → P i)
    {o1 : Lo} {w1 : List Lo} {x : Option Lo} (h : Runs p o1 w1 x) : ∀ {k : Nat} {o2 : Lo} {w2 : List Lo} {y : Option Lo}, StOk p at_ e k o1 w1 → RchA p a o1 w1 → Alk C F P U T o1 o2 → Alks C F P U T w1 w2 → Runs p o2 w2 y →
      (x = none ∧ y = none) ∨ ∃ b1 b2, x = some b1 ∧ y = some b2 ∧ Alk C F P U T b1 b2 := by
  induction h with
  | @done o ws c h h5 =>
    intro k o2 w2 y hk hr ha hw hy
    rw [ha.pl] at h
    cases hy with
    | done => exact .inr ⟨_, _, rfl, rfl, ha⟩
    | wait h' h5' => rw [h] at h'; cases h'; exact absurd h5 h5'
    | step h' h5' => rw [h] at h'; cases h'; exact absurd h5 h5'
  | @wait o ws c h h5 hs =>
    intro k o2 w2 y hk hr ha hw hy
    obtain ⟨n, hpl, n1, n2, hn, hg, hrb⟩ := hk.here hc he
    have hgc := h
    rw [hg] at hgc; cases hgc
    have rn : Rch p a n := by have := hr.1; rwa [hpl, Int.toNat_natCast] at this
    rw [ha.pl] at h
    rcases alk_step hT hrb ha hw (h0 n hn n2 rn) (h1 n hn n2 rn) (h2 n hn n2 rn) with ⟨q1, q2⟩ | ⟨_, _, _, _, q1, _⟩
    · cases hy with
      | done h' h5' => rw [h] at h'; cases h'; exact absurd h5' h5
      | wait => exact .inl ⟨rfl, rfl⟩
      | step h' h5' hs' => rw [h] at h'; cases h'; rw [q2] at hs'; cases hs'
    · rw [hs] at q1; cases q1
  | @step o ws c o' ws' res h h5 hs hrr ih =>
    intro k o2 w2 y hk hr ha hw hy
    have hk' := hk.step hc he h h5 hs
    have hr' := step_rch hc he hk hr h hs
    obtain ⟨n, hpl, n1, n2, hn, hg, hrb⟩ := hk.here hc he
    have hgc := h
    rw [hg] at hgc; cases hgc
    have rn : Rch p a n := by have := hr.1; rwa [hpl, Int.toNat_natCast] at this
    rw [ha.pl] at h
    rcases alk_step hT hrb ha hw (h0 n hn n2 rn) (h1 n hn n2 rn) (h2 n hn n2 rn) with ⟨q1, q2⟩ | ⟨_, b, _, vb, q1, q2, q3, q4⟩
    · rw [hs] at q1; cases q1
    · rw [hs] at q1; cases q1
      cases hy with
      | done h' h5' => rw [h] at h'; cases h'; exact absurd h5' h5
      | wait h' h5' hs' => rw [h] at h'; cases h'; rw [q2] at hs'; cases hs'
      | step h' h5' hs' hy' => rw [h] at h'; cases h'; rw [q2] at hs'; cases hs'; exact ih hk' hr' q3 q4 hy'
/-- what a state has of another's. -/
structure Frm (C F P U T : Nat → Prop) (m o : Lo) : Prop where
  th : AlT C F P m.th o.th
  out : ∀ i, U i → m.out i = o.out i
  la : ∀ i, U i → o.la i = ByteArray.mk #[]
  ta : ∀ i, T i → m.ta i = o.ta i
theorem AlT.trans {t1 t2 t3 : Th} (h : AlT C F P t1 t2) (h' : AlT C F P t2 t3) : AlT C F P t1 t3 :=
  ⟨fun i hi => (h.c i hi).trans (h'.c i hi), fun i hi => (h.f i hi).trans (h'.f i hi), fun i hi => (h.p i hi).trans (h'.p i hi)⟩
theorem frm_step {c : Ins} {m o o' : Lo} {ws ws' : List Lo} (hr : RngB c) (h : Frm C F P U T m o) (hw : ∀ w ∈ ws, Frm C F P U T m w)
    (h0 : ∀ i, wrP c 0 i → ¬ C i) (h1 : ∀ i, wrP c 1 i → ¬ F i) (h2 : ∀ i, wrP c 2 i → ¬ P i) (h3 : ∀ i, seP c i → ¬ U i) (h4 : ∀ i, taP c i → ¬ T i) (hs : stepB c o ws = some (o', ws')) :
    Frm C F P U T m o' ∧ ∀ w ∈ ws', Frm C F P U T m w := by
  have h15 := hr.h15
  have h16 := hr.h16
  have h18 := hr.h18
  unfold stepB at hs
  cases hpf : plainF c o.pl o.r with
  | some q =>
    obtain ⟨pl', r'⟩ := q
    rw [hpf] at hs
    cases hs
    exact ⟨⟨h.th, h.out, h.la, h.ta⟩, hw⟩
  | none =>
    rw [hpf] at hs
    simp only at hs
    split at hs
    · rename_i hd
      split at hs
      · cases hs
      · cases hs
        exact ⟨⟨h.th.trans (doF_frame hr hd h0 h1 h2), h.out, h.la, h.ta⟩, hw⟩
    split at hs
    · rename_i e
      cases hs
      have := h15 e
      refine ⟨⟨h.th, fun i hi => ?_, h.la, h.ta⟩, hw⟩
      show m.out i = updS _ _ _ i
      unfold updS
      rw [if_neg]
      · exact h.out i hi
      · intro ei; exact h3 i ⟨.inl e, by omega⟩ hi
    split at hs
    · rename_i e
      cases hs
      have := h16 e
      refine ⟨⟨h.th, h.out, fun i hi => ?_, h.ta⟩, hw⟩
      show updS _ _ _ i = _
      unfold updS
      rw [if_neg]
      · exact h.la i hi
      · intro ei; exact h3 i ⟨.inr e, by omega⟩ hi
    split at hs
    · rename_i e
      cases hs
      have := h18 e
      refine ⟨⟨h.th, h.out, h.la, fun i hi => ?_⟩, hw⟩
      show m.ta i = updI _ _ _ i
      unfold updI
      rw [if_neg]
      · exact h.ta i hi
      · intro ei; exact h4 i ⟨e, by omega⟩ hi
    split at hs
    · cases hs
      refine ⟨⟨h.th, h.out, h.la, h.ta⟩, fun w hw' => ?_⟩
      rcases List.mem_cons.1 hw' with rfl | hw'
      · exact ⟨h.th, h.out, h.la, h.ta⟩
      · exact hw w hw'
    split at hs
    · cases ws with
      | nil => cases hs
      | cons w ws => cases hs; exact ⟨hw _ (by simp), fun x hx => hw x (by simp [hx])⟩
    split at hs
    · cases hs; exact ⟨⟨h.th, h.out, h.la, h.ta⟩, by simp⟩
    · cases hs; exact ⟨⟨h.th, h.out, h.la, h.ta⟩, hw⟩
theorem runs_frm {p : List Ins} (hc : CanB p) {at_ e : Nat} (he : EndAt p at_ e) {a : Nat} {m : Lo}
    (h0 : ∀ n (hn : n < p.length), n ≤ e → Rch p a n → ∀ i, wrP p[n] 0 i → ¬ C i) (h1 : ∀ n (hn : n < p.length), n ≤ e → Rch p a n → ∀ i, wrP p[n] 1 i → ¬ F i) (h2 : ∀ n (hn : n < p.length), n ≤ e → Rch p a n → ∀ i, wrP p[n] 2 i → ¬ P i)
    (h3 : ∀ n (hn : n < p.length), n ≤ e → Rch p a n → ∀ i, seP p[n] i → ¬ U i) (h4 : ∀ n (hn : n < p.length), n ≤ e → Rch p a n → ∀ i, taP p[n] i → ¬ T i)
    {o : Lo} {ws : List Lo} {x : Option Lo} (h : Runs p o ws x) : ∀ {k : Nat} {b : Lo}, StOk p at_ e k o ws → RchA p a o ws → Frm C F P U T m o → (∀ w ∈ ws, Frm C F P U T m w) → x = some b → Frm C F P U T m b := by
  induction h with
  | done => intro k b _ _ hf _ hb; cases hb; exact hf
  | wait => intro k b _ _ _ _ hb; cases hb
  | @step o ws c o' ws' res h h5 hs hrr ih =>
    intro k b hk hr hf hw hb
    obtain ⟨n, hpl, n1, n2, hn, hg, hrb⟩ := hk.here hc he
    have hgc := h
    rw [hg] at hgc; cases hgc
    have rn : Rch p a n := by have := hr.1; rwa [hpl, Int.toNat_natCast] at this
    obtain ⟨f1, f2⟩ := frm_step hrb hf hw (h0 n hn n2 rn) (h1 n hn n2 rn) (h2 n hn n2 rn) (h3 n hn n2 rn) (h4 n hn n2 rn) hs
    exact ih (hk.step hc he h h5 hs) (step_rch hc he hk hr h hs) f1 f2 hb
end
end Go.Proofs.Ytijppadieomnjaa.HM
namespace Go.Proofs.Ytijppadieomnjaa.HM
open Go

/-- a model that a law looks at. -/
def GoodM (m : Lo) : Prop := (∀ j, j < 3 → (m.tx j).size ≤ 64 ∧ 0 ≤ m.th.p j ∧ (m.out j).size ≤ 1024) ∧ ∀ j, j < 6 → (m.th.f j).2.size ≤ 32
theorem GoodM.ok {m : Lo} (h : GoodM m) (at_ : Nat) (r : Nat → Int) : LoOk 0 (begO m at_ r) :=
  ⟨fun i hi => Nat.le_trans (h.2 i hi) (by omega), fun i hi => (h.1 i hi).2.1, fun i hi => Nat.le_trans (h.1 i hi).1 (by omega), fun i hi => Nat.le_trans (h.1 i hi).2.2 (by omega), fun i _ => Nat.le_refl _⟩
theorem law28_good_wp {D : HV → List HV → M HV} {H : Heap} {Q : HV → Heap → Prop} {y : List HV} {m : Lo} (hy : MoL y m) (h : ∀ z : Bool, (z = true → GoodM m) → Q (.bool z) H) : wp (f_law28_good D [.agg y]) Q H := by
  have hyl := hy.len
  unfold f_law28_good
  with_reducible repeat' (first | refine wp_finF ?_ | refine wp_uA ?_ | refine wp_uI ?_ | refine wp_uB ?_ | refine wp_uL ?_ | refine wp_uS ?_ | refine wp_uP ?_ | refine wp_uc ?_ | refine wp_nl ?_ | refine wp_asB ?_ | refine wp_asI ?_ | refine wp_asSl ?_ | refine wp_asT ?_ | refine wp_asA ?_ | refine wp_asS ?_ | refine wp_asP ?_ | refine wp_nN ?_ | refine wp_rN ?_ | refine wp_xN ?_ | refine wp_nB ?_ | refine wp_rB ?_ | refine wp_xB rfl ?_ | refine wp_xB' rfl ?_ | refine wp_bB ?_ | refine wp_rX ?_ | refine wp_xX ?_ | refine wp_rE ?_ | refine wp_xE ?_ | refine wp_rR ?_ | refine wp_xR ?_ | refine wp_r0 ?_ | refine wp_x0 ?_ | refine wp_rF ?_ | refine wp_rF0 ?_ | refine wp_rF2 ?_ | refine wp_rF3 ?_ | refine wp_rF4 ?_ | refine wp_condT ?_ | refine wp_condF ?_ | refine wp_condNT ?_ | refine wp_condNF ?_)
  refine wp_gxNm (by omega) ?_
  refine wp_loop0 6 (by omega) rfl (fun _ => rfl) rfl (fun i => ∀ j, j < i → (m.th.f j).2.size ≤ 32) (fun j hj => by omega) ?_ ?_
  · intro i hi hp
    refine wp_gdD (by omega) (wp_gdD (by omega) (wp_gxE (by simp; omega) (by rw [show (i : Int).toNat * 2 = i * 2 by omega]; exact hy.file hi) (wp_uB (wp_uS (wp_nl ?_)))))
    refine wp_jnP (32 < (m.th.f i).2.size ∨ ((m.th.f i).1 = false ∧ ((m.th.f i).2.toList == (ByteArray.mk #[]).toList) = false)) ?_ (fun _ => wp_uB (wp_nl (wp_condT (wp_r0 (wp_rB (wp_rF (h _ fun hh => by cases hh))))))) (fun hh => wp_uB (wp_nl (wp_condF (wp_n0 ?_))))
    · refine wp_condD (fun c => wp_bB ⟨fun _ => .inl (by omega), fun _ => rfl⟩) (fun c => ?_)
      refine wp_condN (fun c2 => wp_bB ?_) (fun c2 => wp_bB ?_)
      · rw [c2]
        cases ((m.th.f i).2.toList == (ByteArray.mk #[]).toList) <;> simp <;> omega
      · rw [c2]; simp; omega
    · intro j hj
      rcases Nat.lt_or_ge j i with h | h
      · exact hp j h
      · have : j = i := by omega
        subst this
        exact Nat.le_of_not_lt fun h => hh (.inl h)
  intro hm2
  refine wp_nl (wp_gxE (by omega) hy.ps (wp_uI (wp_uI (wp_uI (wp_nl ?_)))))
  refine wp_loop0 3 (by omega) rfl (fun _ => rfl) rfl (fun i => ∀ j, j < i → (m.tx j).size ≤ 64 ∧ 0 ≤ m.th.p j ∧ (m.out j).size ≤ 1024) (fun j hj => by omega) ?_ ?_
  · intro i hi hp
    have ei : (i : Int).toNat * 1 = i := by omega
    have hsx : y[23 + (i : Int).toNat * 1]? = some (.str (m.tx i)) := by rw [ei]; exact hy.tx i hi
    refine wp_gdD (by omega) (wp_gdD (by omega) (wp_gxg (v := I (m.th.p i)) (by rw [ei]; rcases lt3 hi with rfl | rfl | rfl <;> rfl) (wp_asI ?_)))
    refine wp_jnP (¬ ((m.tx i).size ≤ 64 ∧ 0 ≤ m.th.p i ∧ m.th.p i ≤ ((m.tx i).size : Int) ∧ (m.out i).size ≤ 1024)) ?_ (fun _ => wp_uB (wp_nl (wp_condT (wp_r0 (wp_rB (wp_rF (h _ fun hh => by cases hh))))))) (fun hh => wp_uB (wp_nl (wp_condF (wp_n0 ?_))))
    · refine wp_gdD (by omega) (wp_gdD (by omega) (wp_gxg hsx (wp_asS ?_)))
      refine wp_condD (fun c => wp_bB ⟨fun _ hh => by omega, fun _ => rfl⟩) (fun c => ?_)
      refine wp_condD (fun c => wp_bB ⟨fun _ hh => by omega, fun _ => rfl⟩) (fun c2 => ?_)
      refine wp_gdD (by omega) (wp_gdD (by omega) (wp_gxg hsx (wp_asS ?_)))
      refine wp_condD (fun c => wp_bB ⟨fun _ hh => by omega, fun _ => rfl⟩) (fun c3 => ?_)
      refine wp_gdD (by omega) (wp_gdD (by omega) (wp_gxg (v := .str (m.out i)) (by rw [ei]; exact hy.out i hi) (wp_asS (wp_bB ?_))))
      rw [decide_eq_true_iff]
      omega
    · intro j hj
      have hh := Classical.not_not.1 hh
      rcases Nat.lt_or_ge j i with h | h
      · exact hp j h
      · have : j = i := by omega
        subst this
        exact ⟨hh.1, hh.2.1, hh.2.2.2⟩
  intro hm1
  exact wp_nl (wp_rF (h _ fun _ => ⟨hm1, hm2⟩))
end Go.Proofs.Ytijppadieomnjaa.HM
namespace Go.Proofs.Ytijppadieomnjaa.HM
open Go

theorem rdP_lt {c : Ins} (hr : RngB c) {k i : Nat} (h : rdP c k i) : i < 8 ∧ c.op ≠ 5 := by
  have h6 := hr.h6
  have h8 := hr.h8
  have h9 := hr.h9
  have h10 := hr.h10
  have h12 := hr.h12
  have h14 := hr.h14
  rcases h with ⟨e, _, hi⟩ | ⟨e, _, hi⟩ | ⟨e, _, hi⟩ | ⟨e, _, hi⟩ | ⟨e, _, hi⟩
  · have := h6 e; omega
  · have := h8 e; omega
  · rcases e with e | e | e | e
    · have := h9 e; omega
    · have := h10 (by omega); omega
    · have := h10 (by omega); omega
    · have := h10 (by omega); omega
  · have := h12 e; omega
  · have := h14 e; omega
theorem wrP_lt {c : Ins} (hr : RngB c) {k i : Nat} (h : wrP c k i) : i < 8 ∧ c.op ≠ 5 := by
  rcases h with ⟨e, _, hi⟩ | ⟨_, _, h⟩
  · have := hr.h7 e; omega
  · exact rdP_lt hr h
section
variable {p : List Ins} {a e : Nat} {S : Sco}
theorem sc_rd (hc : CanB p) (he : EndAt p a e) (hS : ScoI p a e S) {k : Nat} (hk : k < 3) {n : Nat} (hn : n < p.length) (hne : n ≤ e) (hr : Rch p a n) {i : Nat} (h : rdP p[n] k i) : (S.r k).getLsbD i = true := by
  obtain ⟨h1, h2⟩ := rdP_lt (hc.one n hn).fits.rngB h
  have : n ≠ e := fun hh => by subst hh; exact h2 (he.fin hn)
  exact (hS.r k hk i h1).2 ⟨n, hn, by omega, hr, h⟩
theorem sc_wr (hc : CanB p) (he : EndAt p a e) (hS : ScoI p a e S) {k : Nat} (hk : k < 3) {n : Nat} (hn : n < p.length) (hne : n ≤ e) (hr : Rch p a n) {i : Nat} (h : wrP p[n] k i) : (S.w k).getLsbD i = true := by
  obtain ⟨h1, h2⟩ := wrP_lt (hc.one n hn).fits.rngB h
  have : n ≠ e := fun hh => by subst hh; exact h2 (he.fin hn)
  exact (hS.w k hk i h1).2 ⟨n, hn, by omega, hr, h⟩
theorem sc_se (hc : CanB p) (he : EndAt p a e) (hS : ScoI p a e S) {n : Nat} (hn : n < p.length) (hne : n ≤ e) (hr : Rch p a n) {i : Nat} (h : seP p[n] i) : S.s i = true := by
  have hb := (hc.one n hn).fits.rngB
  have h15 := hb.h15
  have h16 := hb.h16
  have hi : i < 3 ∧ (p[n]).op ≠ 5 := by
    obtain ⟨e | e, h⟩ := h
    · have := h15 e; omega
    · have := h16 e; omega
  have : n ≠ e := fun hh => by subst hh; exact hi.2 (he.fin hn)
  exact (hS.s i hi.1).2 ⟨n, hn, by omega, hr, h⟩
theorem sc_ta (hc : CanB p) (he : EndAt p a e) (hS : ScoI p a e S) {n : Nat} (hn : n < p.length) (hne : n ≤ e) (hr : Rch p a n) {i : Nat} (h : taP p[n] i) : S.t i = true := by
  have hb := (hc.one n hn).fits.rngB
  have h18 := hb.h18
  have hi : i < 4 ∧ (p[n]).op ≠ 5 := by
    obtain ⟨e, h⟩ := h
    have := h18 e; omega
  have : n ≠ e := fun hh => by subst hh; exact hi.2 (he.fin hn)
  exact (hS.t i hi.1).2 ⟨n, hn, by omega, hr, h⟩
theorem rchA_beg (hc : CanB p) (he : EndAt p a e) (m : Lo) (r : Nat → Int) : RchA p a (begO m a r) [] := by
  have hal : a < p.length := Nat.lt_trans he.lt he.le
  have h4 := he.b hal
  refine ⟨?_, by simp⟩
  show Rch p a ((a : Int) + 1).toNat
  rw [show ((a : Int) + 1).toNat = a + 1 by omega]
  exact .step hal .refl ((nextL_iff (hc.fwd.at_ hal)).2 (.inl ⟨by omega, by omega, by omega, rfl⟩))
/-- what a block leaves as it was. -/
theorem blk_frm (hc : CanB p) (he : EndAt p a e) (hS : ScoI p a e S) {m : Lo} (hm : GoodM m) {r : Nat → Int} {o : Lo} (h : Runs p (begO m a r) [] (some o)) :
    Frm (fun i => ¬ (S.w 0).getLsbD i = true) (fun i => ¬ (S.w 1).getLsbD i = true) (fun i => ¬ (S.w 2).getLsbD i = true) (fun i => ¬ S.s i = true) (fun i => ¬ S.t i = true) m o :=
  runs_frm hc he (a := a) (fun n hn hne hr i hw hh => hh (sc_wr hc he hS (by omega) hn hne hr hw)) (fun n hn hne hr i hw hh => hh (sc_wr hc he hS (by omega) hn hne hr hw)) (fun n hn hne hr i hw hh => hh (sc_wr hc he hS (by omega) hn hne hr hw))
    (fun n hn hne hr i hw hh => hh (sc_se hc he hS hn hne hr hw)) (fun n hn hne hr i hw hh => hh (sc_ta hc he hS hn hne hr hw)) h (StOk.beg hc he (hm.ok a r) rfl) (rchA_beg hc he m r) ⟨.rfl' _, fun _ _ => rfl, fun _ _ => rfl, fun _ _ => rfl⟩ (by simp) rfl
theorem Frm.outs {C F P U T : Nat → Prop} {m o : Lo} (h : Frm C F P U T m o) {i : Nat} (hi : i < 3) (hu : U i) : (outsO o 3).out i = m.out i := by
  show (if i < 3 then o.out i ++ o.la i else o.out i) = _
  rw [if_pos hi, h.la i hu, ← h.out i hu]
  exact ByteArray.append_empty
end
end Go.Proofs.Ytijppadieomnjaa.HM
namespace Go.Proofs.Ytijppadieomnjaa.HM
open Go

/-- another number in a cell. -/
def withC (m : Lo) (i : Nat) (x : Int) : Lo := { m with th := { m.th with c := updI m.th.c i x } }
section
variable {p : List Ins} {a e : Nat} {S : Sco}
theorem goodM_withC {m : Lo} (h : GoodM m) (i : Nat) (x : Int) : GoodM (withC m i x) := h
theorem blk_alk (hc : CanB p) (he : EndAt p a e) (hS : ScoI p a e S) {m : Lo} (hm : GoodM m) {r : Nat → Int} {i : Nat} {x : Int} (hi : ¬ (S.r 0).getLsbD i = true) {o1 o2 : Option Lo}
    (h1 : Runs p (begO m a r) [] o1) (h2 : Runs p (begO (withC m i x) a r) [] o2) :
    (o1 = none ∧ o2 = none) ∨ ∃ b1 b2, o1 = some b1 ∧ o2 = some b2 ∧ Alk (fun j => j ≠ i) (fun _ => True) (fun _ => True) (fun _ => True) (fun _ => Eq) b1 b2 := by
  have ha : Alk (fun j => j ≠ i) (fun _ => True) (fun _ => True) (fun _ => True) (fun _ => Eq) (begO m a r) (begO (withC m i x) a r) :=
    ⟨⟨fun j hj => by show m.th.c j = updI m.th.c i x j; unfold updI; rw [if_neg hj], fun _ _ => rfl, fun _ _ => rfl⟩, fun _ _ => rfl, fun _ => rfl, rfl, rfl, rfl, rfl⟩
  exact runs_alk hc he (fun _ _ _ _ h => by rw [h]) (a := a) (C := fun j => j ≠ i) (fun n hn hne hr j hj (hji : j = i) => hi (by subst hji; exact sc_rd hc he hS (by omega) hn hne hr hj)) (fun _ _ _ _ _ _ => trivial) (fun _ _ _ _ _ _ => trivial) h1 (StOk.beg hc he (hm.ok a r) rfl) (rchA_beg hc he m r) ha .nil h2
/-- with the cell put back, it is the same. -/
theorem alk_back {i : Nat} (hi : i < 8) {b1 b2 : Lo} (h : Alk (fun j => j ≠ i) (fun _ => True) (fun _ => True) (fun _ => True) (fun _ => Eq) b1 b2) {y1 y2 : List HV} (h1 : MoL y1 (outsO b1 3)) (h2 : MoL y2 (outsO b2 3)) :
    y2.set i (I (b1.th.c i)) = y1 := by
  have hl := h2.len
  have h3 : MoL (y2.set i (I (b1.th.c i))) (outsO b1 3) := by
    refine ⟨by simpa using hl, ?_, fun j hj => ?_, fun j hj => ?_, fun j hj => ?_⟩
    · have := h2.th.setC hi (b1.th.c i)
      rw [← List.take_set] at this
      refine ⟨this.len, fun j hj => ?_, fun j hj => ?_, fun j hj => ?_⟩
      · have q := this.c j hj
        rw [q]
        show some (I (updI b2.th.c i (b1.th.c i) j)) = some (I (b1.th.c j))
        unfold updI
        split
        · rename_i ej; rw [ej]
        · rename_i ej; rw [h.th.c j ej]
      · have q := this.f j hj
        have e : b1.th.f j = b2.th.f j := h.th.f j trivial
        show _ = some (HV.bool (b1.th.f j).1) ∧ _ = some (HV.str (b1.th.f j).2)
        rw [e]; exact q
      · have q := this.p j hj
        have e : b1.th.p j = b2.th.p j := h.th.p j trivial
        show _ = some (I (b1.th.p j))
        rw [e]; exact q
    · rw [List.getElem?_set_ne (by omega)]
      have := h2.tx j hj
      rw [this]
      show some (HV.str (b2.tx j)) = some (HV.str (b1.tx j))
      rw [h.tx]
    · rw [List.getElem?_set_ne (by omega), h2.out j hj]
      show some (HV.str (if j < 3 then b2.out j ++ b2.la j else b2.out j)) = some (HV.str (if j < 3 then b1.out j ++ b1.la j else b1.out j))
      rw [h.la, h.out j trivial]
    · rw [List.getElem?_set_ne (by omega), h2.ta j hj]
      show some (I (b2.ta j)) = some (I (b1.ta j))
      rw [h.ta j]
  exact h3.only h1
theorem MoL.withC {y : List HV} {m : Lo} (h : MoL y m) {i : Nat} (hi : i < 8) (x : Int) : MoL (y.set i (I x)) (withC m i x) := by
  have hl := h.len
  refine ⟨by simpa using hl, ?_, fun j hj => ?_, fun j hj => ?_, fun j hj => ?_⟩
  · have := h.th.setC hi x
    rwa [← List.take_set] at this
  · rw [List.getElem?_set_ne (by omega)]; exact h.tx j hj
  · rw [List.getElem?_set_ne (by omega)]; exact h.out j hj
  · rw [List.getElem?_set_ne (by omega)]; exact h.ta j hj
end
end Go.Proofs.Ytijppadieomnjaa.HM
namespace Go.Proofs.Ytijppadieomnjaa.HM
open Go

theorem wp_gxPg {α : Type} {Q : α → Heap → Prop} {H : Heap} {z y : List HV} {n k : Nat} {v : HV} {f : HV → M α} (hz : z.length = n) (hl : y.length = n) (h : y[k]? = some v) (hf : wp (f v) Q H) : wp (gx (putN z 0 y) k f) Q H := by
  rw [putN_full (by omega)]; exact wp_gxg h hf
theorem wp_gxPn {α : Type} {Q : α → Heap → Prop} {H : Heap} {z y l : List HV} {n o m : Nat} {f : List HV → M α} (hl : y.length = n) (hz : z.length = n) (hm : o + m ≤ n) (e : (y.drop o).take m = l) (h : wp (f l) Q H) : wp (gxN (putN z 0 y) o m f) Q H := by
  rw [putN_full (by omega)]; exact wp_gxE (by omega) e h
theorem MoL.c {y : List HV} {o : Lo} (h : MoL y o) {i : Nat} (hi : i < 8) : y[i]? = some (I (o.th.c i)) := by
  have := h.th.c i hi
  rwa [List.getElem?_take, if_pos (by omega)] at this
theorem MoL.file2 {y : List HV} {o : Lo} (h : MoL y o) {i : Nat} (hi : i < 6) : (y.drop (8 + i * 2)).take 2 = [.bool (o.th.f i).1, .str (o.th.f i).2] := by
  refine List.ext_getElem? fun j => ?_
  rw [List.getElem?_take]
  split
  · rename_i hj
    rw [List.getElem?_drop]
    have : j = 0 ∨ j = 1 := by omega
    rcases this with rfl | rfl
    · rw [Nat.add_zero, (h.f hi).1]; rfl
    · rw [(h.f hi).2]; rfl
  · rw [List.getElem?_eq_none (by simp; omega)]
/-- what a block's scope says of what it leaves. -/
structure Lft (S : Sco) (m o : Lo) : Prop where
  c : ∀ i, i < 8 → o.th.c i ≠ m.th.c i → (S.w 0).getLsbD i = true
  f : ∀ i, i < 6 → o.th.f i ≠ m.th.f i → (S.w 1).getLsbD i = true
  p : ∀ i, i < 3 → o.th.p i ≠ m.th.p i → (S.w 2).getLsbD i = true
  s : ∀ i, i < 3 → o.out i ≠ m.out i → S.s i = true
  t : ∀ i, i < 4 → o.ta i ≠ m.ta i → S.t i = true
theorem BlkR.lft {p : List Ins} {a e : Nat} {S : Sco} (hc : CanB p) (he : EndAt p a e) (hS : ScoI p a e S) {m : Lo} (hm : GoodM m) {r r1 : Nat → Int} {y y1 : List HV} {k1 : Int} {b1 : Bool} (hy : MoL y m) (h : BlkR p a m r y y1 k1 r1 b1) : ∃ o, MoL y1 o ∧ Lft S m o := by
  rcases h with ⟨o, h1, h2, _⟩ | ⟨_, rfl, _⟩
  · have hf := blk_frm hc he hS hm h1
    refine ⟨_, h2, ⟨fun i _ hne => Classical.byContradiction fun hh => hne (hf.th.c i hh).symm, fun i _ hne => Classical.byContradiction fun hh => hne (hf.th.f i hh).symm, fun i _ hne => Classical.byContradiction fun hh => hne (hf.th.p i hh).symm,
      fun i hi hne => Classical.byContradiction fun hh => hne (hf.outs hi hh), fun i _ hne => Classical.byContradiction fun hh => hne (hf.ta i hh).symm⟩⟩
  · exact ⟨m, hy, ⟨fun i _ hne => absurd rfl hne, fun i _ hne => absurd rfl hne, fun i _ hne => absurd rfl hne, fun i _ hne => absurd rfl hne, fun i _ hne => absurd rfl hne⟩⟩
theorem blkR_alk {p : List Ins} {a e : Nat} {S : Sco} (hc : CanB p) (he : EndAt p a e) (hS : ScoI p a e S) {m : Lo} (hm : GoodM m) {r r1 r2 : Nat → Int} {y y' y1 y2 : List HV} {k1 k2 : Int} {b1 b2 : Bool} {j : Nat} {x : Int} (hj : j < 8) (hrd : ¬ (S.r 0).getLsbD j = true)
    (h : BlkR p a m r y y1 k1 r1 b1) (h2 : BlkR p a (withC m j x) r y' y2 k2 r2 b2) :
    b2 = b1 ∧ k2 = k1 ∧ r2 = r1 ∧ (b1 = true → (∀ c, y1[j]? = some (I c) → y2.set j (I c) = y1) ∧ (¬ (S.w 0).getLsbD j = true → y2[j]? = some (I x))) := by
  rcases h with ⟨o, q1, q2, rfl, rfl, rfl⟩ | ⟨q1, rfl, rfl, rfl, rfl⟩
  · rcases h2 with ⟨o2, w1, w2, rfl, rfl, rfl⟩ | ⟨w1, rfl, rfl, rfl, rfl⟩
    · rcases blk_alk hc he hS hm hrd q1 w1 with ⟨e1, _⟩ | ⟨b1, b2, e1, e2, ha⟩
      · cases e1
      cases e1; cases e2
      refine ⟨rfl, by rw [ha.pl], ha.r.symm, fun _ => ⟨fun c hcc => ?_, fun hw => ?_⟩⟩
      · have : c = o.th.c j := by
          have e3 := q2.c hj
          rw [hcc] at e3; cases e3; rfl
        rw [this]; exact alk_back hj ha q2 w2
      · have hfr := blk_frm hc he hS (goodM_withC hm j x) w1
        have e3 := hfr.th.c j hw
        rw [w2.c hj]
        show some (I (o2.th.c j)) = _
        rw [← e3]
        show some (I (updI m.th.c j x j)) = _
        unfold updI; rw [if_pos rfl]
    · rcases blk_alk hc he hS hm hrd q1 w1 with ⟨e1, _⟩ | ⟨b1, b2, e1, e2, ha⟩
      · cases e1
      · cases e2
  · rcases h2 with ⟨o2, w1, w2, rfl, rfl, rfl⟩ | ⟨w1, rfl, rfl, rfl, rfl⟩
    · rcases blk_alk hc he hS hm hrd q1 w1 with ⟨_, e2⟩ | ⟨b1, b2, e1, e2, ha⟩
      · cases e2
      · cases e1
    · exact ⟨rfl, rfl, rfl, fun h => by cases h⟩
theorem law28_ScopeModel_wp {cl : List (Nat × Clo)} {rn : List (Nat × Rnd)} {D0 : DD} (h1 : lkA cl n_bound_From_1 = some f_bound_From_1) (h2 : lkA rn 82468377 = some r0_scope_Of) {H : Heap} {s : Sl} {p : List Ins} (hs : RProg H s p) (hf : ∀ x ∈ p, IFit x)
    {y : List HV} {m : Lo} (hy : MoL y m) {r : Nat → Int} {a i0 x0 : Int} : wp (f_law28_ScopeModel (stepD cl rn (stepD cl rn D0)) [.sl s, .agg y, .agg (regL r), I a, I i0, I x0]) Yes H := by
  have hyl := hy.len
  unfold f_law28_ScopeModel
  show wp (fin (uL [.sl s, .agg y, .agg [I (r 0), I (r 1), I (r 2), I (r 3)], I a, I i0, I x0] _)) _ _
  with_reducible repeat' (first | refine wp_finF ?_ | refine wp_uA ?_ | refine wp_uI ?_ | refine wp_uB ?_ | refine wp_uL ?_ | refine wp_uS ?_ | refine wp_uP ?_ | refine wp_uc ?_ | refine wp_nl ?_ | refine wp_asB ?_ | refine wp_asI ?_ | refine wp_asSl ?_ | refine wp_asT ?_ | refine wp_asA ?_ | refine wp_asS ?_ | refine wp_asP ?_ | refine wp_nN ?_ | refine wp_rN ?_ | refine wp_xN ?_ | refine wp_nB ?_ | refine wp_rB ?_ | refine wp_xB rfl ?_ | refine wp_xB' rfl ?_ | refine wp_bB ?_ | refine wp_rX ?_ | refine wp_xX ?_ | refine wp_rE ?_ | refine wp_xE ?_ | refine wp_rR ?_ | refine wp_xR ?_ | refine wp_r0 ?_ | refine wp_x0 ?_ | refine wp_rF ?_ | refine wp_rF0 ?_ | refine wp_rF2 ?_ | refine wp_rF3 ?_ | refine wp_rF4 ?_ | refine wp_condT ?_ | refine wp_condF ?_ | refine wp_condNT ?_ | refine wp_condNF ?_)
  refine wp_bnd (law28_alive_wp h1 h2 fun H1 hk1 => wp_asB (wp_condNT ?_))
  have hs1 := hs.keeps hk1
  refine wp_bnd (scope_Of_wp h1 h2 hs1 hf (fun k hk hc e he S H2 hk2 hS => ?_) (fun hn H2 hk2 => ?_))
  rotate_left
  · refine wp_asT (wp_uA (wp_uB (wp_nl (wp_gd rfl (wp_gd rfl ?_)))))
    refine wp_bnd (ref28_Of_wp (hs1.keeps hk2) (fun _ _ hb _ _ => absurd hb hn) (fun _ => ?_))
    refine wp_asT (wp_uA (wp_uB (wp_nl (wp_gd rfl (wp_gd rfl (wp_jn (wp_condNF (wp_ret ?_))))))))
    show wp _ _ _
    refine wp_uB (wp_nl (wp_condT (wp_jn (wp_condNF (wp_ret ?_)))))
    show wp _ _ _
    exact wp_uB (wp_nl (wp_rF rfl))
  subst hk
  refine wp_asT (wp_uA (wp_uB (wp_nl (wp_gd rfl (wp_gd rfl ?_)))))
  have hkp : k < p.length := Nat.lt_trans he.lt he.le
  have hbeg : Beg p (k : Int) := ⟨hc, k, rfl, hkp, he.b hkp⟩
  have hs2 := hs1.keeps hk2
  refine wp_bnd (ref28_Of_wp hs2 (fun k' hk' _ L hL => ?_) (fun hn => absurd hbeg hn))
  have hLm : (L.map HV.bool).length = 57 := by simpa using hL.len
  refine wp_asT (wp_uA (wp_uB (wp_nl (wp_gd (by rw [hLm]; rfl) (wp_gd (by rw [hLm]; simp) ?_)))))
  refine wp_jn (wp.mono (Q := fun l H' => H' = H2 ∧ ∃ z : Bool, l = .norm [.bool z] ∧ (z = false → GoodM m)) ?_ ?_)
  · refine wp_condNT (wp_gxAl hyl (wp_bnd (law28_good_wp hy fun z hz => wp_asB (wp_ret ⟨rfl, _, rfl, fun hh => hz ?_⟩))))
    cases z <;> simp_all
  rintro _ _ ⟨rfl, z, rfl, hz⟩
  show wp _ _ _
  refine wp_uB (wp_nl (wp_cond (fun c => ?_) (fun c => ?_)))
  · refine wp_jn (wp_condNT (wp_ret ?_))
    show wp _ _ _
    exact wp_uB (wp_nl (wp_rF rfl))
  have hm := hz c
  refine wp_gxAl hyl (wp_bnd ?_)
  refine ref23_Block_wp' hc hs2 he hy (hm.ok _ _) fun H3 y1 k1 r1 b1 hk3 hb1 => ?_
  obtain ⟨o1, hy1, hlf⟩ := hb1.lft hc he hS hm hy
  have hyl1 := hy1.len
  have hs3 := hs2.keeps hk3
  refine wp_asT (wp_uA (wp_uI (wp_uA (wp_uI (wp_uI (wp_uI (wp_uI (wp_nl (wp_uB (wp_nl ?_))))))))))
  refine wp_gdQ hyl1 (wp_gdL (by rw [hyl1]; exact Nat.le_refl _) ?_)
  refine wp_loop0 8 (by omega) rfl (fun _ => rfl) rfl (fun _ => True) trivial ?_ ?_
  · intro i hi _
    have ei : 0 + (i : Int).toNat * 1 = i := by omega
    refine wp_jnP False ?_ (fun hh => hh.elim) (fun _ => wp_uB (wp_nl (wp_condF (wp_n0 trivial))))
    refine wp_gdD (by omega) (wp_gdD (by omega) (wp_gxPg rfl hyl1 (v := I (o1.th.c i)) (by rw [ei]; exact hy1.c hi) (wp_asI ?_)))
    refine wp_gdD (by omega) (wp_gdD (by omega) (wp_gxg (v := I (m.th.c i)) (by rw [ei]; exact hy.c hi) (wp_asI ?_)))
    refine wp_condNE (fun hne => ?_) (fun _ => wp_bB (by simp))
    refine wp_gxPn (cells_len S) rfl (by omega) rfl (wp_uI (wp_uI (wp_uI (wp_nl (wp_bnd ?_)))))
    refine scope_Has_wp (f := S.w) (fun a b ha hb _ _ => wp_asB (wp_bB ?_)) (fun hn => absurd ⟨by omega, by omega, by omega, by omega⟩ hn)
    have : a = 0 := by omega
    have : b = i := by omega
    subst a b
    rw [hlf.c i hi hne]; simp
  intro _
  refine wp_nl ?_
  refine wp_loop0 6 (by omega) rfl (fun _ => rfl) rfl (fun _ => True) trivial ?_ ?_
  · intro i hi _
    have ei : 8 + (i : Int).toNat * 2 = 8 + i * 2 := by omega
    refine wp_jnP False ?_ (fun hh => hh.elim) (fun _ => wp_uB (wp_nl (wp_condF (wp_n0 trivial))))
    refine wp_gdD (by omega) (wp_gdD (by omega) (wp_gxPn hyl1 rfl (by omega) (by rw [ei]; exact hy1.file2 hi) (wp_uB (wp_uS (wp_nl ?_)))))
    refine wp_gdD (by omega) (wp_gdD (by omega) (wp_gxE (by omega) (by rw [ei]; exact hy.file2 hi) (wp_uB (wp_uS (wp_nl ?_)))))
    refine wp_condN (fun hb => ?_) (fun _ => wp_bB (by simp))
    have hne : o1.th.f i ≠ m.th.f i := fun hh => by rw [hh] at hb; simp at hb
    refine wp_gxPn (cells_len S) rfl (by omega) rfl (wp_uI (wp_uI (wp_uI (wp_nl (wp_bnd ?_)))))
    refine scope_Has_wp (f := S.w) (fun a b ha hb _ _ => wp_asB (wp_bB ?_)) (fun hn => absurd ⟨by omega, by omega, by omega, by omega⟩ hn)
    have : a = 1 := by omega
    have : b = i := by omega
    subst a b
    rw [hlf.f i hi hne]; simp
  intro _
  refine wp_nl ?_
  refine wp_loop0 3 (by omega) rfl (fun _ => rfl) rfl (fun _ => True) trivial ?_ ?_
  · intro i hi _
    have ei : 20 + (i : Int).toNat * 1 = 20 + i := by omega
    have eo : 26 + (i : Int).toNat * 1 = 26 + i := by omega
    have es : 6 + (i : Int).toNat * 1 = 6 + i := by omega
    refine wp_jnP False ?_ (fun hh => hh.elim) (fun _ => wp_uB (wp_nl (wp_condF (wp_n0 trivial))))
    refine wp_gdD (by omega) (wp_gdD (by omega) (wp_gxPg rfl hyl1 (v := I (o1.th.p i)) (by rw [ei]; exact hy1.p hi) (wp_asI ?_)))
    refine wp_gdD (by omega) (wp_gdD (by omega) (wp_gxg (v := I (m.th.p i)) (by rw [ei]; exact hy.p hi) (wp_asI ?_)))
    have hsv : S.cells[6 + (i : Int).toNat * 1]? = some (.bool (S.s i)) := by rw [es]; rcases lt3 hi with rfl | rfl | rfl <;> rfl
    refine wp_condNE (fun hne => ?_) (fun _ => ?_)
    · refine wp_gxPn (cells_len S) rfl (by omega) rfl (wp_uI (wp_uI (wp_uI (wp_nl (wp_bnd ?_)))))
      refine scope_Has_wp (f := S.w) (fun a b ha hb _ _ => wp_asB ?_) (fun hn => absurd ⟨by omega, by omega, by omega, by omega⟩ hn)
      have : a = 2 := by omega
      have : b = i := by omega
      subst a b
      rw [hlf.p i hi hne]
      refine wp_condNT ?_
      refine wp_gdD (by omega) (wp_gdD (by omega) (wp_gxPg rfl hyl1 (v := .str (o1.out i)) (by rw [eo]; exact hy1.out i hi) (wp_asS ?_)))
      refine wp_gdD (by omega) (wp_gdD (by omega) (wp_gxg (v := .str (m.out i)) (by rw [eo]; exact hy.out i hi) (wp_asS ?_)))
      refine wp_condN (fun hb => ?_) (fun _ => wp_bB (by simp))
      have hne : o1.out i ≠ m.out i := fun hh => by rw [hh] at hb; simp at hb
      refine wp_gdD (by omega) (wp_gdD (by omega) (wp_gxPg rfl (cells_len S) hsv (wp_asB (wp_bB ?_))))
      rw [hlf.s i hi hne]; simp
    · refine wp_gdD (by omega) (wp_gdD (by omega) (wp_gxPg rfl hyl1 (v := .str (o1.out i)) (by rw [eo]; exact hy1.out i hi) (wp_asS ?_)))
      refine wp_gdD (by omega) (wp_gdD (by omega) (wp_gxg (v := .str (m.out i)) (by rw [eo]; exact hy.out i hi) (wp_asS ?_)))
      refine wp_condN (fun hb => ?_) (fun _ => wp_bB (by simp))
      have hne : o1.out i ≠ m.out i := fun hh => by rw [hh] at hb; simp at hb
      refine wp_gdD (by omega) (wp_gdD (by omega) (wp_gxPg rfl (cells_len S) hsv (wp_asB (wp_bB ?_))))
      rw [hlf.s i hi hne]; simp
  intro _
  refine wp_nl ?_
  refine wp_loop0 4 (by omega) rfl (fun _ => rfl) rfl (fun _ => True) trivial ?_ ?_
  · intro i hi _
    have ei : 29 + (i : Int).toNat * 1 = 29 + i := by omega
    have es : 9 + (i : Int).toNat * 1 = 9 + i := by omega
    refine wp_jnP False ?_ (fun hh => hh.elim) (fun _ => wp_uB (wp_nl (wp_condF (wp_n0 trivial))))
    refine wp_gdD (by omega) (wp_gdD (by omega) (wp_gxPg rfl hyl1 (v := I (o1.ta i)) (by rw [ei]; exact hy1.ta i hi) (wp_asI ?_)))
    refine wp_gdD (by omega) (wp_gdD (by omega) (wp_gxg (v := I (m.ta i)) (by rw [ei]; exact hy.ta i hi) (wp_asI ?_)))
    refine wp_condNE (fun hne => ?_) (fun _ => wp_bB (by simp))
    refine wp_gdD (by omega) (wp_gdD (by omega) (wp_gxPg rfl (cells_len S) (v := .bool (S.t i)) (by rw [es]; rcases lt4 hi with rfl | rfl | rfl | rfl <;> rfl) (wp_asB (wp_bB ?_))))
    rw [hlf.t i hi hne]; simp
  intro _
  refine wp_nl ?_
  refine wp_jnP (¬ ∃ j : Nat, i0 = j ∧ j < 8 ∧ ¬ (S.r 0).getLsbD j = true) ?_ (fun _ => wp_uB (wp_nl (wp_condT (wp_rF rfl)))) (fun hh => wp_uB (wp_nl (wp_condF ?_)))
  · refine wp_condD (fun c => wp_bB ⟨fun _ ⟨j, hj, _⟩ => by omega, fun _ => rfl⟩) (fun c0 => ?_)
    refine wp_condD (fun c => wp_bB ⟨fun _ ⟨j, hj, _⟩ => by omega, fun _ => rfl⟩) (fun c1 => ?_)
    refine wp_gxPn (cells_len S) rfl (by omega) rfl (wp_uI (wp_uI (wp_uI (wp_nl (wp_bnd ?_)))))
    refine scope_Has_wp (f := S.r) (fun a b ha hb _ _ => wp_asB (wp_bB ?_)) (fun hn => absurd ⟨by omega, by omega, by omega, by omega⟩ hn)
    have : a = 0 := by omega
    subst a
    constructor
    · rintro h ⟨j, hj, _, hn⟩
      have : j = b := by omega
      subst this
      exact hn h
    · intro h
      exact Classical.byContradiction fun hn => h ⟨b, hb, by omega, hn⟩
  obtain ⟨j, rfl, hj, hrd⟩ := Classical.not_not.1 hh
  have ej : 0 + (j : Int).toNat * 1 = j := by omega
  have hyw := hy.withC hj x0
  have hylw := hyw.len
  refine wp_gxAl hyl (wp_gdQ hyl (wp_gdL (by rw [hyl]; exact Nat.le_refl _) (wp_gdD (by omega) (wp_gdD (by omega) (wp_gdD (by rw [putN_full (by rw [hyl]; rfl), hyl]; omega) (wp_gxPs rfl hyl ?_))))))
  rw [ej]
  refine wp_bnd (ref23_Block_wp' hc hs3 he hyw ((goodM_withC hm j x0).ok _ _) fun H4 y2 k2 r2 b2 hk4 hb2 => ?_)
  obtain ⟨o2, hy2⟩ := hb2.mo hyw
  have hyl2 := hy2.len
  obtain ⟨rfl, rfl, rfl, hlast⟩ := blkR_alk hc he hS hm hj hrd hb1 hb2
  refine wp_asT (wp_uA (wp_uI (wp_uA (wp_uI (wp_uI (wp_uI (wp_uI (wp_nl (wp_uB (wp_nl ?_))))))))))
  refine wp_gdQ hyl2 (wp_gdL (by rw [hyl2]; exact Nat.le_refl _) ?_)
  refine wp_jnP False ?_ (fun hh => hh.elim) (fun _ => wp_uB (wp_nl (wp_condF ?_)))
  · refine wp_condN (fun c => by simp at c) (fun _ => ?_)
    refine wp_condNE (fun c => absurd rfl c) (fun _ => ?_)
    exact wp_eqM (regL_eqSh r2) (wp_bB (by simp))
  refine wp_condN (fun _ => wp_rF rfl) (fun c => ?_)
  obtain ⟨hl1, hl2⟩ := hlast c
  refine wp_jnP False ?_ (fun hh => hh.elim) (fun _ => wp_uB (wp_nl (wp_condF ?_)))
  · refine wp_gxPn (cells_len S) rfl (by omega) rfl (wp_uI (wp_uI (wp_uI (wp_nl (wp_bnd ?_)))))
    refine scope_Has_wp (f := S.w) (fun a b ha hb _ _ => wp_asB ?_) (fun hn => absurd ⟨by omega, by omega, by omega, by omega⟩ hn)
    have : a = 0 := by omega
    have : b = j := by omega
    subst a b
    refine wp_condN (fun hw => ?_) (fun _ => wp_bB (by simp))
    refine wp_gdD (by omega) (wp_gdD (by omega) (wp_gxPg rfl hyl2 (v := I x0) (hl2 (by rw [hw]; simp)) (wp_asI (wp_bB (by simp)))))
  refine wp_gdD (by omega) (wp_gdD (by omega) (wp_gxPg rfl hyl1 (v := I (o1.th.c j)) (hy1.c hj) (wp_asI ?_)))
  refine wp_gdD (by omega) (wp_gdD (by omega) (wp_gdD (by rw [putN_full (by rw [hyl2]; rfl), hyl2]; omega) (wp_gxPs rfl hyl2 ?_)))
  rw [hl1 _ (hy1.c hj)]
  exact wp_gxP rfl hyl1 (wp_eqM hy1.eqSh (wp_rF rfl))
end Go.Proofs.Ytijppadieomnjaa.HM
