/- Trimming: a block does the same (law29.TrimModel, the mathematics). Conditions: the program can be (lemmas). -/
import Derived.Test.YtijppadieomnjaaHTMk
import Derived.Test.YtijppadieomnjaaHTTb
import Derived.Test.YtijppadieomnjaaHTMl
import Derived.Test.YtijppadieomnjaaHTEj
import Derived.Test.YtijppadieomnjaaHTEl
namespace Go.Proofs.Ytijppadieomnjaa.HT
open Go

noncomputable def mvO (p : List Ins) (o : Lo) : Lo := { o with pl := (kp p o.pl.toNat : Int) }
noncomputable def mvW (p : List Ins) (ws : List Lo) : List Lo := ws.map (mvO p)
def RchO (p : List Ins) (o : Lo) (ws : List Lo) : Prop := Rch p 0 o.pl.toNat ∧ ∀ w ∈ ws, Rch p 0 w.pl.toNat
/-- what is done, but for where it goes on. -/
theorem step_kept {p : List Ins} (hc : CanB p) {at_ e k : Nat} {o o' : Lo} {ws ws' : List Lo} (he : EndAt p at_ e) (h : StOk p at_ e k o ws) (hr : RchO p o ws) {n : Nat} (hpl : o.pl = n) (hn : n < p.length) (hid : ¬ idleP p n) (h5 : (p[n]).op ≠ 5)
    (hs : stepB p[n] o ws = some (o', ws')) : stepB (movedI (idleL p) p[n]) (mvO p o) (mvW p ws) = some (mvO p o', mvW p ws') ∧ RchO p o' ws' := by
  obtain ⟨n', hpl', h1, h2, _, hg, hrb⟩ := h.here hc he
  have : n' = n := by omega
  subst this
  obtain ⟨i0, i4, i5⟩ := in_blk hc he h1 h2 hn
  have hlen := hc.len
  have hne : n' ≠ e := fun hh => by subst hh; exact h5 (he.fin hn)
  have hw : wr (o.pl + 1) = ((n' + 1 : Nat) : Int) := by rw [hpl]; exact wr_small (by omega) (by omega)
  have hkl := kp_le p n'
  have hwk : wr ((kp p n' : Int) + 1) = ((kp p (n' + 1) : Nat) : Int) := by rw [kp_kept hn hid]; exact wr_small (by omega) (by omega)
  obtain ⟨r0, rw0⟩ := hr
  rw [hpl, Int.toNat_natCast] at r0
  have ha := hc.fwd.at_ hn
  have hnx : (p[n']).op ≠ 19 → ¬ ((p[n']).op = 3 ∧ (p[n']).c = 2) → Rch p 0 (n' + 1) := fun q1 q2 => .step hn r0 ((nextL_iff ha).2 (.inl ⟨i0, q1, q2, rfl⟩))
  have hgo : (p[n']).op = 3 ∨ (p[n']).op = 20 → Rch p 0 (p[n']).a.toNat := fun q => .step hn r0 ((nextL_iff ha).2 (.inr ⟨q, by have := ha q; omega⟩))
  have nx : ∀ o2 : Lo, o2.pl = o.pl → nxt (mvO p o2) = mvO p (nxt o2) ∧ ((p[n']).op ≠ 19 → ¬ ((p[n']).op = 3 ∧ (p[n']).c = 2) → Rch p 0 (nxt o2).pl.toNat) := by
    intro o2 hp2
    refine ⟨?_, fun q1 q2 => ?_⟩
    · unfold nxt mvO
      simp only
      rw [hp2, hw, Int.toNat_natCast, hpl, Int.toNat_natCast, hwk]
    · show Rch p 0 (wr (o2.pl + 1)).toNat
      rw [hp2, hw, Int.toNat_natCast]; exact hnx q1 q2
  by_cases h3 : (p[n']).op = 3
  · have hm : (movedI (idleL p) p[n']) = { p[n'] with a := (kp p (p[n']).a.toNat : Int) } := by unfold movedI; rw [if_pos (.inl h3)]
    rw [hm]
    unfold stepB plainF at hs ⊢
    simp only at hs ⊢
    rw [if_neg (by omega), if_neg (by omega), if_pos h3] at hs ⊢
    have hgg : goes { p[n'] with a := (kp p (p[n']).a.toNat : Int) } (mvO p o).r ↔ goes p[n'] o.r := Iff.rfl
    by_cases hg : goes p[n'] o.r
    · rw [if_pos hg] at hs
      rw [if_pos (hgg.2 hg)]
      cases hs
      exact ⟨rfl, hgo (.inl h3), rw0⟩
    · rw [if_neg hg] at hs
      rw [if_neg (fun hh => hg (hgg.1 hh))]
      cases hs
      refine ⟨?_, ?_, rw0⟩
      · show some (({ mvO p o with pl := wr ((mvO p o).pl + 1) } : Lo), _) = _
        have := (nx o rfl).1
        unfold nxt at this
        rw [this]
      · exact (nx o rfl).2 (by omega) (fun hh => hg (.inl hh.2))
  by_cases h20 : (p[n']).op = 20
  · have hm : (movedI (idleL p) p[n']) = { p[n'] with a := (kp p (p[n']).a.toNat : Int) } := by unfold movedI; rw [if_pos (.inr h20)]
    rw [hm]
    have hp0 : ∀ (c : Ins) pl r, c.op = 20 → plainF c pl r = none := fun c pl r hcc => by unfold plainF; rw [if_neg (by omega), if_neg (by omega), if_neg (by omega)]
    have hd0 : ∀ (c : Ins) r, c.op = 20 → (deedF c r).2.1 = false := fun c r hcc => by unfold deedF; simp [hcc]
    unfold stepB at hs ⊢
    rw [hp0 _ _ _ h20] at hs
    rw [hp0 _ _ _ (by exact h20)]
    simp only at hs ⊢
    rw [hd0 _ _ h20] at hs
    rw [hd0 _ _ (by exact h20)]
    rw [if_neg (by simp), if_neg (by omega), if_neg (by omega), if_neg (by omega), if_pos h20] at hs ⊢
    cases hs
    refine ⟨?_, (nx o rfl).2 (by omega) (by omega), fun w hw' => ?_⟩
    · rw [(nx o rfl).1]; rfl
    · rcases List.mem_cons.1 hw' with rfl | hw'
      · exact hgo (.inr h20)
      · exact rw0 w hw'
  rw [movedI_self (by omega)]
  unfold stepB at hs ⊢
  cases hpf : plainF p[n'] o.pl o.r with
  | some q =>
    obtain ⟨pl', r'⟩ := q
    rw [hpf] at hs
    cases hs
    have hp2 : plainF p[n'] (mvO p o).pl (mvO p o).r = some (wr ((mvO p o).pl + 1), r') ∧ pl' = wr (o.pl + 1) := by
      unfold plainF at hpf ⊢
      split at hpf
      · rename_i e1; cases hpf; rw [if_pos e1]; exact ⟨rfl, rfl⟩
      rename_i e1
      rw [if_neg e1]
      split at hpf
      · rename_i e2; cases hpf; rw [if_pos e2]; exact ⟨rfl, rfl⟩
      rename_i e2
      rw [if_neg e2]
      first | cases hpf | (rw [if_neg h3] at hpf; cases hpf)
    obtain ⟨hp2, rfl⟩ := hp2
    rw [hp2]
    have hop : (p[n']).op ≠ 19 := by
      intro hh
      unfold plainF at hpf
      rw [if_neg (by omega), if_neg (by omega), if_neg (by omega)] at hpf
      cases hpf
    have := nx { o with r := r' } rfl
    exact ⟨congrArg some (Prod.ext this.1 rfl), this.2 hop (by omega), rw0⟩
  | none =>
    rw [hpf] at hs
    have hp2 : plainF p[n'] (mvO p o).pl (mvO p o).r = none := by
      unfold plainF at hpf ⊢
      split at hpf
      · cases hpf
      rename_i e1
      rw [if_neg e1]
      split at hpf
      · cases hpf
      rename_i e2
      rw [if_neg e2, if_neg h3]
    rw [hp2]
    simp only at hs ⊢
    have e1 : (mvO p o).r = o.r := rfl
    have e2 : (mvO p o).th = o.th := rfl
    have e3 : (mvO p o).tx = o.tx := rfl
    rw [e1, e2, e3]
    split at hs
    · rename_i hd
      rw [if_pos hd]
      have hop : (p[n']).op ≠ 19 := by intro e; unfold deedF at hd; simp [e] at hd
      split at hs
      · cases hs
      · rename_i hg
        rw [if_neg hg]
        cases hs
        refine ⟨congrArg some (Prod.ext ?_ rfl), (nx _ ?_).2 hop (by omega), rw0⟩
        · exact (nx { o with th := (doF o.th o.tx (deedF p[n'] o.r).1).2, r := if (deedF p[n'] o.r).2.2 = true then updI o.r (p[n']).a.toNat (doF o.th o.tx (deedF p[n'] o.r).1).1 else o.r } rfl).1
        · rfl
    rename_i hd
    rw [if_neg hd]
    split at hs
    · rename_i e; rw [if_pos e]
      cases hs
      exact ⟨congrArg some (Prod.ext (nx { o with out := updS o.out (p[n']).a.toNat (o.out (p[n']).a.toNat ++ strB [IntKind.wrap .u8 (o.r (p[n']).b.toNat)]) } rfl).1 rfl), (nx _ (by rfl)).2 (by omega) (by omega), rw0⟩
    rename_i e; rw [if_neg e]
    split at hs
    · rename_i e; rw [if_pos e]
      cases hs
      exact ⟨congrArg some (Prod.ext (nx { o with la := updS o.la (p[n']).a.toNat (o.la (p[n']).a.toNat ++ strB [IntKind.wrap .u8 (p[n']).b]) } rfl).1 rfl), (nx _ (by rfl)).2 (by omega) (by omega), rw0⟩
    rename_i e; rw [if_neg e]
    split at hs
    · rename_i e; rw [if_pos e]
      cases hs
      exact ⟨congrArg some (Prod.ext (nx { o with ta := updI o.ta (p[n']).a.toNat (sumI (o.ta (p[n']).a.toNat) (p[n']).b) } rfl).1 rfl), (nx _ (by rfl)).2 (by omega) (by omega), rw0⟩
    rename_i e; rw [if_neg e]
    rw [if_neg h20]
    split at hs
    · rename_i e; rw [if_pos e]
      cases ws with
      | nil => cases hs
      | cons w ws =>
        cases hs
        exact ⟨rfl, rw0 _ (by simp), fun x hx => rw0 x (by simp [hx])⟩
    rename_i e; rw [if_neg e]
    split at hs
    · rename_i e; rw [if_pos e]
      cases hs
      exact ⟨congrArg some (Prod.ext (nx o rfl).1 rfl), (nx o rfl).2 (by omega) (by omega), by simp⟩
    · rename_i e; rw [if_neg e]
      cases hs
      exact ⟨congrArg some (Prod.ext (nx o rfl).1 rfl), (nx o rfl).2 (by omega) (by omega), rw0⟩
end Go.Proofs.Ytijppadieomnjaa.HT
namespace Go.Proofs.Ytijppadieomnjaa.HT
open Go

theorem step_wait {p : List Ins} {o : Lo} {ws : List Lo} {c : Ins} (hs : stepB c o ws = none) : c.op ≠ 3 ∧ stepB (movedI (idleL p) c) (mvO p o) (mvW p ws) = none := by
  have h3 : c.op ≠ 3 := by
    intro h3
    unfold stepB plainF at hs
    rw [if_neg (by omega), if_neg (by omega), if_pos h3] at hs
    split at hs <;> rename_i hq
    · cases hs
    · split at hq <;> cases hq
  have h20 : c.op ≠ 20 := by
    intro h20
    have hp0 : plainF c o.pl o.r = none := by unfold plainF; rw [if_neg (by omega), if_neg (by omega), if_neg (by omega)]
    have hd0 : (deedF c o.r).2.1 = false := by unfold deedF; simp [h20]
    unfold stepB at hs
    rw [hp0] at hs
    simp only at hs
    rw [hd0] at hs
    rw [if_neg (by simp), if_neg (by omega), if_neg (by omega), if_neg (by omega), if_pos h20] at hs
    cases hs
  refine ⟨h3, ?_⟩
  rw [movedI_self (by omega)]
  unfold stepB at hs ⊢
  cases hpf : plainF c o.pl o.r with
  | some q => rw [hpf] at hs; cases hs
  | none =>
    rw [hpf] at hs
    have hp2 : plainF c (mvO p o).pl (mvO p o).r = none := by
      unfold plainF at hpf ⊢
      split at hpf
      · cases hpf
      rename_i e1
      rw [if_neg e1]
      split at hpf
      · cases hpf
      rename_i e2
      rw [if_neg e2, if_neg h3]
    rw [hp2]
    simp only at hs ⊢
    have e1 : (mvO p o).r = o.r := rfl
    have e2 : (mvO p o).th = o.th := rfl
    have e3 : (mvO p o).tx = o.tx := rfl
    rw [e1, e2, e3]
    split at hs
    · rename_i hd
      rw [if_pos hd]
      split at hs
      · rename_i hg; rw [if_pos hg]
      · cases hs
    rename_i hd
    rw [if_neg hd]
    split at hs
    · cases hs
    rename_i e; rw [if_neg e]
    split at hs
    · cases hs
    rename_i e; rw [if_neg e]
    split at hs
    · cases hs
    rename_i e; rw [if_neg e]
    rw [if_neg h20]
    split at hs
    · rename_i e; rw [if_pos e]
      cases ws with
      | nil => rfl
      | cons w ws => cases hs
    rename_i e; rw [if_neg e]
    split at hs
    · cases hs
    · cases hs
theorem Runs.trim {p : List Ins} (hc : CanB p) {at_ e : Nat} (he : EndAt p at_ e) {o : Lo} {ws : List Lo} {res : Option Lo} (h : Runs p o ws res) : ∀ {k : Nat}, StOk p at_ e k o ws → RchO p o ws → Runs (trim1 p) (mvO p o) (mvW p ws) (res.map (mvO p)) := by
  induction h with
  | @done o ws c h h5 =>
    intro k hk hr
    obtain ⟨n, hpl, h1, h2, hn, hg, hrb⟩ := hk.here hc he
    rw [hg] at h; cases h
    have hid : ¬ idleP p n := fun hh => by have := (idle_jump hc hn hh (by have := hr.1; rwa [hpl, Int.toNat_natCast] at this)).1; omega
    obtain ⟨hkk, hm⟩ := trim1_getE hn hid
    refine .done (c := p[n]) ?_ h5
    show (trim1 p)[((kp p o.pl.toNat : Nat) : Int).toNat]? = _
    rw [hpl, Int.toNat_natCast, Int.toNat_natCast, List.getElem?_eq_getElem hkk, hm, movedI_self (by omega)]
  | @wait o ws c h h5 hs =>
    intro k hk hr
    obtain ⟨n, hpl, h1, h2, hn, hg, hrb⟩ := hk.here hc he
    rw [hg] at h; cases h
    obtain ⟨h3, hs2⟩ := step_wait (p := p) hs
    have hid : ¬ idleP p n := fun hh => by have := (idle_jump hc hn hh (by have := hr.1; rwa [hpl, Int.toNat_natCast] at this)).1; omega
    obtain ⟨hkk, hm⟩ := trim1_getE hn hid
    refine .wait (c := movedI (idleL p) p[n]) ?_ ?_ hs2
    · show (trim1 p)[((kp p o.pl.toNat : Nat) : Int).toNat]? = _
      rw [hpl, Int.toNat_natCast, Int.toNat_natCast, List.getElem?_eq_getElem hkk, hm]
    · unfold movedI; split <;> exact h5
  | @step o ws c o' ws' res h h5 hs hr' ih =>
    intro k hk hr
    obtain ⟨n, hpl, h1, h2, hn, hg, hrb⟩ := hk.here hc he
    have hk' := hk.step hc he h h5 hs
    rw [hg] at h; cases h
    have hrn : Rch p 0 n := by have := hr.1; rwa [hpl, Int.toNat_natCast] at this
    by_cases hid : idleP p n
    · obtain ⟨i3, ia⟩ := idle_jump hc hn hid hrn
      have hlen := hc.len
      have hs3 : o' = { o with pl := ((n + 1 : Nat) : Int) } ∧ ws' = ws := by
        unfold stepB plainF at hs
        rw [if_neg (by omega), if_neg (by omega), if_pos i3] at hs
        have hw : wr (o.pl + 1) = ((n + 1 : Nat) : Int) := by rw [hpl]; exact wr_small (by omega) (by omega)
        rw [hw, ia] at hs
        by_cases hgo : goes p[n] o.r
        · rw [if_pos hgo] at hs; cases hs; exact ⟨rfl, rfl⟩
        · rw [if_neg hgo] at hs; cases hs; exact ⟨rfl, rfl⟩
      obtain ⟨rfl, rfl⟩ := hs3
      have hsame : mvO p { o with pl := ((n + 1 : Nat) : Int) } = mvO p o := by
        unfold mvO
        simp only
        rw [Int.toNat_natCast, hpl, Int.toNat_natCast, kp_idle hn hid]
      rw [← hsame]
      refine ih hk' ⟨?_, hr.2⟩
      show Rch p 0 ((n + 1 : Nat) : Int).toNat
      rw [Int.toNat_natCast]
      refine .step hn hrn ((nextL_iff (hc.fwd.at_ hn)).2 (.inr ⟨.inl i3, ?_⟩))
      rw [ia]; rfl
    · obtain ⟨hs2, hr2⟩ := step_kept hc he hk hr hpl hn hid h5 hs
      obtain ⟨hkk, hm⟩ := trim1_getE hn hid
      refine .step (c := movedI (idleL p) p[n]) ?_ ?_ hs2 (ih hk' hr2)
      · show (trim1 p)[((kp p o.pl.toNat : Nat) : Int).toNat]? = _
        rw [hpl, Int.toNat_natCast, Int.toNat_natCast, List.getElem?_eq_getElem hkk, hm]
      · unfold movedI; split <;> exact h5
/-- where a block ends. -/
theorem Runs.fin {p : List Ins} (hc : CanB p) {at_ e : Nat} (he : EndAt p at_ e) {o : Lo} {ws : List Lo} {res : Option Lo} (h : Runs p o ws res) : ∀ {k : Nat} {o' : Lo}, StOk p at_ e k o ws → res = some o' → o'.pl = e ∧ ∃ k', LoOk k' o' := by
  induction h with
  | @done o ws c h h5 =>
    intro k o' hk ho
    cases ho
    obtain ⟨n, hpl, h1, h2, hn, hg, hrb⟩ := hk.here hc he
    rw [hg] at h; cases h
    have := (in_blk hc he h1 h2 hn).2.2 h5
    exact ⟨by omega, k, hk.ok⟩
  | wait => intro k o' _ ho; cases ho
  | step h h5 hs hr ih => intro k o' hk ho; exact ih (hk.step hc he h h5 hs) ho
theorem StOk.beg {p : List Ins} (hc : CanB p) {at_ e : Nat} (he : EndAt p at_ e) {o : Lo} (hok : LoOk 0 o) (hpl : o.pl = (at_ : Int) + 1) : StOk p at_ e 0 o [] := by
  have := Bd_small hc o.pl.toNat
  have := he.lt
  exact ⟨hok, by simp, ⟨by omega, by omega⟩, by simp, by simp only [sumB]; omega⟩
/-- a block of a program, and of the trimmed one. -/
theorem runs_trim {p : List Ins} (hc : CanB p) {at_ e : Nat} (he : EndAt p at_ e) (hr : Rch p 0 at_) {m : Lo} {r : Nat → Int} (hok : LoOk 0 (begO m at_ r)) {res res2 : Option Lo} (h : Runs p (begO m at_ r) [] res) (h2 : Runs (trim1 p) (begO m (kp p at_) r) [] res2) : res2 = res.map (mvO p) := by
  have hal : at_ < p.length := Nat.lt_trans he.lt he.le
  have h4 := he.b hal
  have hid : ¬ idleP p at_ := fun hh => by have := (idle_jump hc hal hh hr).1; omega
  have h3 := h.trim hc he (StOk.beg hc he hok rfl) ⟨?_, by simp⟩
  · have e1 : mvO p (begO m at_ r) = begO m (kp p at_) r := by
      unfold mvO begO
      simp only
      rw [show ((at_ : Int) + 1).toNat = at_ + 1 by omega, kp_kept hal hid]; rfl
    rw [e1] at h3
    exact h3.only h2
  · show Rch p 0 ((at_ : Int) + 1).toNat
    rw [show ((at_ : Int) + 1).toNat = at_ + 1 by omega]
    exact .step hal hr ((nextL_iff (hc.fwd.at_ hal)).2 (.inl ⟨by omega, by omega, by omega, rfl⟩))
end Go.Proofs.Ytijppadieomnjaa.HT
namespace Go.Proofs.Ytijppadieomnjaa.HT
open Go

theorem MoL.p {y : List HV} {o : Lo} (h : MoL y o) {i : Nat} (hi : i < 3) : y[20 + i]? = some (I (o.th.p i)) := by
  have := h.th.p i hi
  rwa [List.getElem?_take, if_pos (by omega)] at this
theorem MoL.f {y : List HV} {o : Lo} (h : MoL y o) {i : Nat} (hi : i < 6) : y[8 + i * 2]? = some (.bool (o.th.f i).1) ∧ y[8 + i * 2 + 1]? = some (.str (o.th.f i).2) := by
  have := h.th.f i hi
  rwa [List.getElem?_take, if_pos (by omega), List.getElem?_take, if_pos (by omega)] at this
theorem MoL.ps {y : List HV} {o : Lo} (h : MoL y o) : (y.drop 20).take 3 = [I (o.th.p 0), I (o.th.p 1), I (o.th.p 2)] := by
  refine List.ext_getElem? fun i => ?_
  rw [List.getElem?_take]
  split
  · rename_i hi
    rw [List.getElem?_drop, h.p hi]
    rcases lt3 hi with rfl | rfl | rfl <;> rfl
  · rw [List.getElem?_eq_none (by simp; omega)]
/-- a model's cells. -/
def moL (o : Lo) : List HV := [I (o.th.c 0), I (o.th.c 1), I (o.th.c 2), I (o.th.c 3), I (o.th.c 4), I (o.th.c 5), I (o.th.c 6), I (o.th.c 7),
  .bool (o.th.f 0).1, .str (o.th.f 0).2, .bool (o.th.f 1).1, .str (o.th.f 1).2, .bool (o.th.f 2).1, .str (o.th.f 2).2, .bool (o.th.f 3).1, .str (o.th.f 3).2, .bool (o.th.f 4).1, .str (o.th.f 4).2, .bool (o.th.f 5).1, .str (o.th.f 5).2,
  I (o.th.p 0), I (o.th.p 1), I (o.th.p 2), .str (o.tx 0), .str (o.tx 1), .str (o.tx 2), .str (o.out 0), .str (o.out 1), .str (o.out 2), I (o.ta 0), I (o.ta 1), I (o.ta 2), I (o.ta 3)]
theorem moL_is (o : Lo) : MoL (moL o) o := by
  refine ⟨rfl, ⟨rfl, fun i hi => ?_, fun i hi => ?_, fun i hi => ?_⟩, fun i hi => ?_, fun i hi => ?_, fun i hi => ?_⟩
  · have : i = 0 ∨ i = 1 ∨ i = 2 ∨ i = 3 ∨ i = 4 ∨ i = 5 ∨ i = 6 ∨ i = 7 := by omega
    rcases this with rfl | rfl | rfl | rfl | rfl | rfl | rfl | rfl <;> rfl
  · have : i = 0 ∨ i = 1 ∨ i = 2 ∨ i = 3 ∨ i = 4 ∨ i = 5 := by omega
    rcases this with rfl | rfl | rfl | rfl | rfl | rfl <;> exact ⟨rfl, rfl⟩
  · rcases lt3 hi with rfl | rfl | rfl <;> rfl
  · rcases lt3 hi with rfl | rfl | rfl <;> rfl
  · rcases lt3 hi with rfl | rfl | rfl <;> rfl
  · rcases lt4 hi with rfl | rfl | rfl | rfl <;> rfl
theorem MoL.eq {y : List HV} {o : Lo} (h : MoL y o) : y = moL o := h.only (moL_is o)
theorem MoL.eqSh {y : List HV} {o : Lo} (h : MoL y o) : eqSh [(.ki .i64), (.ki .i64), (.ki .i64), (.ki .i64), (.ki .i64), (.ki .i64), (.ki .i64), (.ki .i64), .kb, .ks, .kb, .ks, .kb, .ks, .kb, .ks, .kb, .ks, .kb, .ks, (.ki .i64), (.ki .i64), (.ki .i64), .ks, .ks, .ks, .ks, .ks, .ks, (.ki .i64), (.ki .i64), (.ki .i64), (.ki .i64)] y y = some true := by
  rw [h.eq]; simp [HT.eqSh, moL]
/-- what a block answers. -/
def BlkR (p : List Ins) (at_ : Nat) (m : Lo) (r : Nat → Int) (y y1 : List HV) (k1 : Int) (r1 : Nat → Int) (b1 : Bool) : Prop :=
  (∃ o, Runs p (begO m at_ r) [] (some o) ∧ MoL y1 (outsO o 3) ∧ k1 = wr (o.pl + 1) ∧ r1 = o.r ∧ b1 = true) ∨ (Runs p (begO m at_ r) [] none ∧ y1 = y ∧ k1 = at_ ∧ r1 = r ∧ b1 = false)
theorem BlkR.trim {p : List Ins} (hc : CanB p) {at_ e : Nat} (he : EndAt p at_ e) (hr : Rch p 0 at_) {m : Lo} {r r1 r2 : Nat → Int} {y y1 y2 : List HV} {k1 k2 : Int} {b1 b2 : Bool} (hok : LoOk 0 (begO m at_ r))
    (h : BlkR p at_ m r y y1 k1 r1 b1) (h2 : BlkR (trim1 p) (kp p at_) m r y y2 k2 r2 b2) : b2 = b1 ∧ r2 = r1 ∧ y2 = y1 ∧ (b1 = true → k1 = ((e + 1 : Nat) : Int) ∧ k2 = (kp p (e + 1) : Int)) := by
  have hal : at_ < p.length := Nat.lt_trans he.lt he.le
  have hlen := hc.len
  have hel := he.le
  have h5 := he.fin hel
  have hid : ¬ idleP p e := by
    rw [idleP_eq hel, if_pos h5, opn_in hc.shaped he.b he.le he.no e he.lt (Nat.le_refl _), Int.toNat_natCast]
    exact fun hh => hh hr
  rcases h with ⟨o, q1, q2, rfl, rfl, rfl⟩ | ⟨q1, rfl, rfl, rfl, rfl⟩
  · have hf := (q1.fin hc he (StOk.beg hc he hok rfl) rfl).1
    rcases h2 with ⟨o2, w1, w2, rfl, rfl, rfl⟩ | ⟨w1, _⟩
    · have e2 := runs_trim hc he hr hok q1 w1
      cases e2
      refine ⟨rfl, rfl, w2.only ⟨q2.len, q2.th, q2.tx, q2.out, q2.ta⟩, fun _ => ⟨?_, ?_⟩⟩
      · rw [hf, wr_small (by omega) (by omega)]; rfl
      · show wr ((kp p o.pl.toNat : Int) + 1) = _
        have := kp_le p e
        rw [hf, Int.toNat_natCast, kp_kept hel hid, wr_small (by omega) (by omega)]; rfl
    · have e2 := runs_trim hc he hr hok q1 w1
      cases e2
  · rcases h2 with ⟨o2, w1, _⟩ | ⟨w1, rfl, rfl, rfl, rfl⟩
    · have e2 := runs_trim hc he hr hok q1 w1
      cases e2
    · exact ⟨rfl, rfl, rfl, fun h => by cases h⟩
end Go.Proofs.Ytijppadieomnjaa.HT
