/- law26: LabelReads: walked. Conditions: the variables of the package (Gl), the tables' entries. -/
import Derived.Test.YtmfmcegpoiinjaaDoorHMRd
namespace Go.Proofs.YtmfmcegpoiinjaaDoor.HM
open Go
set_option maxRecDepth 100000

/-- a slice that a call made. -/
theorem Lg.addOwn {H0 H H' : Heap} {fx : List (Nat × HObj)} {ss : List GSl} (h : Lg H0 H fx ss) (k : Kp H H') {s : Sl} {sz : Nat} {ls : List (List HV)} (ho : Own H H' s sz ls) : Lg H0 H' fx (ss ++ [(s, sz, ls)]) := by
  have h' := h.keeps k
  refine ⟨h'.lm, fun e he => ?_, fun i j a b x h1 h2 h3 h4 => ?_, fun e he x hx p hp => ?_⟩
  · rcases List.mem_append.1 he with he | he
    · exact h'.own e he
    · simp at he; subst he; exact ho.weaken h.kp.k
  · rw [List.getElem?_append] at h1 h2
    split at h1 <;> split at h2
    · exact h.dj i j a b x h1 h2 h3 h4
    · rename_i q1 q2
      have e := List.mem_of_getElem? h2
      simp at e; subst e
      have := (h.own a (List.mem_of_getElem? h1)).blk h3
      have := ho.blk h4
      omega
    · rename_i q1 q2
      have e := List.mem_of_getElem? h1
      simp at e; subst e
      have := (h.own b (List.mem_of_getElem? h2)).blk h4
      have := ho.blk h3
      omega
    · rename_i q1 q2
      have e1 := (List.getElem?_eq_some_iff.1 h1).1
      have e2 := (List.getElem?_eq_some_iff.1 h2).1
      simp at e1 e2; omega
  · rcases List.mem_append.1 he with he | he
    · exact h.df e he x hx p hp
    · simp at he; subst he
      have := ho.blk hx
      have := (h.lm.l.at_ p hp).2.1
      omega
abbrev MF (b3 b4 b9 b12 b1 lp : Nat) (stop : Int) (sm : Sl) (t : Bs) (ws : List (Nat × HV)) (k : Nat) (st : LoopState) (pd : Option Code) : List (Nat × HObj) :=
  [(b3, .cells [I stop] false), (b4, .cells [.bool false] false), (b9, .cells [.sl sm] false), (b12, .cells [I k] false), (b1, .cells [.str (S t)] false), (lp, .spc (.loop 87817742 ws st pd))]
section
variable {H0 H : Heap}
/-- a round over a mark. -/
theorem reads_round {D : DD} {Q : HV → Heap → Prop} {b3 b4 b9 b12 b1 lp : Nat} {stop : Int} {sm : Sl} {t : Bs} {ws : List (Nat × HV)} {ms : List Pl} {rs : List GSl} {i : Nat} {m : Pl} (hi : ms[i]? = some m) (hl : ms.length ≤ 5000)
    (hws : ws = [(3, .ptr (some (b3, 0))), (4, .ptr (some (b4, 0))), (9, .ptr (some (b9, 0))), (12, .ptr (some (b12, 0)))])
    (L : Lg H0 H (MF b3 b4 b9 b12 b1 lp stop sm t ws i .ready none) ((sm, 2, ms.map Pl.mk2) :: rs))
    (h1 : ∀ H', ((i : Int) + 1 ≠ stop) → Lg H0 H' (MF b3 b4 b9 b12 b1 lp stop sm t ws (i + 1) .ready none) ((sm, 2, ms.map Pl.mk2) :: rs) → Q (.bool true) H')
    (h2 : ∀ H', ((i : Int) + 1 = stop) → Lg H0 H' (MF b3 b4 b9 b12 b1 lp stop sm t ws (i + 1) .done (some (.exit 0))) ((sm, 2, ms.map Pl.mk2) :: rs) → Q (.bool false) H') :
    wp (r0_law26_LabelReads D lp ws [.str (S m.name), I m.at_]) (PRnd lp Q) H := by
  have hil := (List.getElem?_eq_some_iff.1 hi).1
  have him : ms[i] = m := (List.getElem?_eq_some_iff.1 hi).2
  unfold r0_law26_LabelReads
  subst hws
  refine wp_gdS rfl ?_
  show wp (uP [.ptr (some (b3, 0)), .ptr (some (b4, 0)), .ptr (some (b9, 0)), .ptr (some (b12, 0))] _) _ _
  refine step ?_
  generalize hws : [((3 : Nat), HV.ptr (some (b3, 0))), (4, .ptr (some (b4, 0))), (9, .ptr (some (b9, 0))), (12, .ptr (some (b12, 0)))] = ws at *
  refine wp_busyL (L.lm.get (i := 5) rfl) ?_
  have L1 := L.set (i := 5) rfl (.spc (.loop 87817742 ws .busy none))
  generalize H.set lp (.spc (.loop 87817742 ws .busy none)) = H1 at L1
  have hrow : Rows Pl.mk2 2 H1 sm ms := (L1.own _ (List.mem_of_getElem? (i := 0) rfl)).slR
  have hlen := hrow.lenI
  refine wp_jnV [.bool false] ?_ ?_
  · refine step ?_
    refine wp_ldL 3 L1 rfl rfl ?_
    refine step ?_
    refine wp_ldL 2 L1 rfl rfl ?_
    refine step ⟨fun c => by omega, fun _ => ?_⟩
    refine wp_ldL 2 L1 rfl rfl ?_
    refine step ?_
    refine wp_ldL 3 L1 rfl rfl ?_
    refine step ?_
    refine wp_atF (k := 0) (v := .str (S m.name)) hrow hil (by rw [him]; rfl) fun b o => ?_
    refine step ⟨fun c => ?_, fun _ => ?_⟩
    · rw [beq_eq_false_iff_ne] at c; exact absurd rfl c
    refine wp_ldL 2 L1 rfl rfl ?_
    refine step ?_
    refine wp_ldL 3 L1 rfl rfl ?_
    refine step ?_
    refine wp_atF (k := 1) (v := I m.at_) hrow hil (by rw [him]; rfl) fun b o => ?_
    refine step ?_
    simp
  · refine step ?_
    refine wp_ldL 3 L1 rfl rfl ?_
    refine step ?_
    rw [wr_small (by omega) (by omega)]
    refine wp_stG 3 L1 rfl (by simp) rfl fun H2 L2 => ?_
    refine step ?_
    refine wp_ldL 3 L2 rfl rfl ?_
    refine step ?_
    refine wp_ldL 0 L2 rfl rfl ?_
    refine step ⟨fun c => ?_, fun c => ?_⟩
    · refine wp_xY (L2.lm.get (i := 5) rfl) (h2 _ c ?_)
      exact L2.set (i := 5) rfl _
    · refine wp_nY (L2.lm.get (i := 5) rfl) (h1 _ c ?_)
      exact L2.set (i := 5) rfl _
end
theorem pass_len : ∀ (ls : List Bs) (i : Nat) (st st' : Sht), passS i ls st = .inl st' → ShB i st → st'.marks.length ≤ i + ls.length := fun ls i st st' h hb => (pass_goals ls i st st' h hb).2.1.m
theorem readS_marks {t : Bs} {p : List Ins} {ms : List Pl} (h : readS t = .inl (p, ms)) : ms.length ≤ 5000 := by
  unfold readS at h
  split at h
  · cases h
  · split at h
    · cases h
    · rename_i st hst
      split at h
      · cases h
      · cases h
        have := pass_len _ _ _ _ hst ⟨by simp, by simp, by simp, by simp⟩
        have := cut_count 10 t
        omega
/-- what reading a text comes to. -/
def Out (t : Bs) (p : List Ins) (ms : List Pl) (n e : Int) : Prop := (readS t = .inl (p, ms) ∧ n = 0 ∧ e = 0) ∨ (readS t = .inr (n, e) ∧ p = [] ∧ ms = [])
theorem Out.inj {t : Bs} {p p' : List Ins} {ms ms' : List Pl} {n n' e e' : Int} (h : Out t p ms n e) (h' : Out t p' ms' n' e') : p' = p ∧ ms' = ms ∧ n' = n ∧ e' = e := by
  rcases h with ⟨h, rfl, rfl⟩ | ⟨h, rfl, rfl⟩ <;> rcases h' with ⟨h', rfl, rfl⟩ | ⟨h', rfl, rfl⟩ <;> rw [h] at h' <;> cases h' <;> exact ⟨rfl, rfl, rfl, rfl⟩
theorem Out.e0 {t : Bs} {p : List Ins} {ms : List Pl} {n : Int} (h : Out t p ms n 0) : readS t = .inl (p, ms) ∧ n = 0 := by
  rcases h with ⟨h, rfl, _⟩ | ⟨h, rfl, rfl⟩
  · exact ⟨h, rfl⟩
  · have := readS_e h; omega
theorem Out.e1 {t : Bs} {p : List Ins} {ms : List Pl} {n e : Int} (h : Out t p ms n e) (he : e ≠ 0) : readS t = .inr (n, e) ∧ p = [] := by
  rcases h with ⟨h, rfl, rfl⟩ | ⟨h, rfl, rfl⟩
  · exact absurd rfl he
  · exact ⟨h, rfl⟩
theorem RProg.none (H : Heap) : RProg H ⟨.none, 0, 0, .none⟩ [] := (⟨rfl, by simp, Nat.le_refl _, .inl rfl, by simp, .inl ⟨rfl, rfl⟩⟩ : SlR H ⟨.none, 0, 0, .none⟩ 4 [])
section
variable {H : Heap} {Q : HV → Heap → Prop}
theorem Read_out {cl : List (Nat × Clo)} {rn : List (Nat × Rnd)} {D0 : DD} (hc : lkA cl n_label_lines_1 = some f_label_lines_1) (hr : lkA rn 96110293 = some r0_label_read) (hG : Gl H) {t : Bs} (htl : t.length ≤ 9223372036854775807)
    (h : ∀ p ms n e H' sp, Out t p ms n e → Kp H H' → RProg H' sp p → Q (.tup [.sl sp, I n, I e]) H') : wp (f_label_Read (stepD cl rn (stepD cl rn D0)) [.str (S t)]) Q H :=
  label_Read_wp hc hr hG htl (fun p ms H' sp hrd k hp => h p ms 0 0 H' sp (.inl ⟨hrd, rfl, rfl⟩) k hp) (fun n e H' hrd k => h [] [] n e H' _ (.inr ⟨hrd, rfl, rfl⟩) k (RProg.none _))
theorem RRead_out {D : HV → List HV → M HV} {t : Bs} (htl : t.length ≤ 9223372036854775807)
    (h : ∀ p ms n e H' sp sm, Out t p ms n e → Kp H H' → RProg H' sp p → Own H H' sm 2 (ms.map Pl.mk2) → Q (.tup [.sl sp, .sl sm, I n, I e]) H') : wp (f_ref26_Read D [.str (S t)]) Q H :=
  RRead_wp htl (fun p ms H' sp sm hrd k hp hm => h p ms 0 0 H' sp sm (.inl ⟨hrd, rfl, rfl⟩) k hp hm) (fun n e H' hrd k => h [] [] n e H' _ _ (.inr ⟨hrd, rfl, rfl⟩) k (RProg.none _) (Own.nil k.k 2))
/-- the iterator over marks. -/
theorem Marks_1_wp {cl : List (Nat × Clo)} {rn : List (Nat × Rnd)} {D0 : DD} (hc : lkA cl n_label_lines_1 = some f_label_lines_1) (hr : lkA rn 96110293 = some r0_label_read) (hG : Gl H) {x0 : HV} {b1 : Nat} {t : Bs} (htl : t.length ≤ 9223372036854775807) {p : List Ins} {ms : List Pl} {n e : Int} (ho : Out t p ms n e)
    {J : Nat → Heap → Sl → Prop} {X : Heap → Prop} (hb : H.get b1 = .cells [.str (S t)] false)
    (start : ∀ H' s, Kp H H' → Own H H' s 3 (ms.map Pl.cs) → J 0 H' s)
    (pc : ∀ i H' s, J i H' s → Rows Pl.cs 3 H' s ms)
    (round : ∀ i H' s m, ms[i]? = some m → J i H' s → wp (stepD cl rn (stepD cl rn D0) x0 [.str (S m.name), I m.at_]) (fun r H2 => (r = .bool true ∧ J (i + 1) H2 s) ∨ (r = .bool false ∧ X H2)) H') :
    wp (f_label_Marks_1 (stepD cl rn (stepD cl rn D0)) [x0, .ptr (some (b1, 0))]) (fun _ H' => (∃ s, J ms.length H' s) ∨ X H') H := by
  unfold f_label_Marks_1
  refine step ?_
  refine wp_ldG hb rfl ?_
  refine step ?_
  refine wp_bnd (label_read_wp hc hr hG htl (fun p' ms' H1 bs sp sm sg bm hrd k hg hlt hp hm => ?_) (fun n' e' H1 hrd k => ?_))
  · obtain ⟨_, rfl, _, _⟩ := ho.inj (.inl ⟨hrd, rfl, rfl⟩)
    refine step ⟨fun c => absurd rfl c, fun _ => ?_⟩
    refine wp_ldG hg (v := .sl sm) rfl ?_
    refine step ?_
    have hJ0 := start H1 sm k hm
    have hml := (pc 0 H1 sm hJ0).lt
    refine wp_for (σ := Unit) ms'.length hml (pc 0 H1 sm hJ0).lenI (fun _ i => [I i]) (out := fun _ => []) (fun _ _ => rfl) rfl (fun i _ H' => J i H' sm) () rfl hJ0 ?_ ?_
    · rintro i _ H2 hi hJ
      have hw : wr ((i : Int) + 1) = (i : Int) + 1 := wr_small (by omega) (by omega)
      have hat : ms'[i]? = some ms'[i] := List.getElem?_eq_getElem hi
      refine wp_at (pc i H2 sm hJ) hi fun b o => ?_
      have hrnd := round i H2 sm _ hat hJ
      generalize ms'[i] = m at *
      show wp (uS [.str (S m.name), I m.line, I m.at_] _) _ _
      refine step (wp_bnd (hrnd.mono fun r H3 hq => ?_))
      rcases hq with ⟨rfl, hq⟩ | ⟨rfl, hq⟩
      · refine step ?_
        exact ⟨(), by rw [hw], hq⟩
      · refine step ?_
        exact .inr hq
    · rintro _ H2 hJ
      refine step ?_
      exact .inl ⟨sm, hJ⟩
  · have he : e' ≠ 0 := by have := readS_e hrd; omega
    obtain ⟨_, hms, _, _⟩ := ho.inj (.inr ⟨hrd, rfl, rfl⟩)
    refine step ⟨fun _ => ?_, fun c => absurd c he⟩
    subst hms
    exact .inl ⟨_, start H1 _ k (Own.nil k.k 3)⟩
theorem LabelReads_wp {cl : List (Nat × Clo)} {rn : List (Nat × Rnd)} {D0 : DD} (hc : lkA cl n_label_lines_1 = some f_label_lines_1) (hr : lkA rn 96110293 = some r0_label_read) (hcm : lkA cl n_label_Marks_1 = some f_label_Marks_1) (hrm : lkA rn 87817742 = some r0_law26_LabelReads) (hG : Gl H)
    {t : Bs} (htl : t.length ≤ 9223372036854775807) {stop : Int} (h : ∀ H', Q (.bool true) H') : wp (f_law26_LabelReads (stepD cl rn (stepD cl rn (stepD cl rn D0))) [.str (S t), I stop]) Q H := by
  unfold f_law26_LabelReads
  refine step ?_
  refine wp_nwG (Lg.of (Lm.nil H)) fun Ha b3 e3 La => ?_
  refine wp_nwG La fun Hb b4 e4 Lb => ?_
  refine wp_bnd (alive_wp hc hr (hG.kp Lb.kp) fun Hc kc => step ?_)
  have Lc := Lb.keeps kc
  refine wp_bnd (Read_out hc hr (hG.kp Lc.kp) htl fun p ms n e Hd sp ho kd hp => step ?_)
  have Ld := Lc.keeps kd
  refine wp_bnd (RRead_out htl fun p' ms' n' e' He sp' sm ho' ke hp' hm => step ?_)
  obtain ⟨rfl, rfl, rfl, rfl⟩ := ho.inj ho'
  have Le := Ld.addOwn ke hm
  have hml : ms'.length ≤ 5000 := by
    rcases ho' with ⟨hrd, _⟩ | ⟨_, _, rfl⟩
    · exact readS_marks hrd
    · simp
  have hpe := hp.keeps ke.k
  have hfin : ∀ {H' : Heap} {fx : List (Nat × HObj)} {ss : List GSl}, Lg H H' ((b3, .cells [I stop] false) :: (b4, .cells [.bool true] false) :: fx) ss → wp (ldC b4 0 fun v => asB v fun z0 => ret (.ret [.bool z0])) (PFin Q) H' := fun L => by
    refine wp_ldL 1 L rfl rfl ?_
    exact step (h _)
  refine wp_nw ?_
  have k2 : Keeps He ((He.push (.cells [.sl ⟨none, 0, 0, none⟩] false)).set He.n (.cells [.sl sm] false)) := (Keeps.push _ _).set (Nat.le_refl _) _
  have Lf := (Le.push (.cells [.sl ⟨none, 0, 0, none⟩] false)).set (i := 2) rfl (.cells [.sl sm] false)
  have hs1 := hpe.keeps k2
  have hs2 := hp'.keeps k2
  refine wp_stC (cs := [.sl ⟨none, 0, 0, none⟩]) (by simp [Heap.push]) (by simp) rfl ?_
  show wp _ _ ((He.push (.cells [.sl ⟨none, 0, 0, none⟩] false)).set He.n (.cells [.sl sm] false))
  generalize (He.push (.cells [.sl ⟨none, 0, 0, none⟩] false)).set He.n (.cells [.sl sm] false) = Hf at *
  generalize He.n = b9 at *
  clear La Lb Lc Ld Le k2
  refine wp_jnV [.bool false] ?_ ?_
  · refine step ⟨fun c => absurd rfl c, fun _ => ⟨fun c => absurd rfl c, fun _ => ?_⟩⟩
    refine wp_bnd (same_wp hs1 hs2 fun b hb => step ?_)
    have : b = true := hb.2 rfl
    subst this; rfl
  refine step ?_
  refine wp_nwG Lf fun Hg b12 e12 Lg1 => ?_
  refine wp_stG 3 Lg1 rfl (by simp) rfl fun Hh Lh => ?_
  refine wp_bnd ?_
  unfold f_label_Marks
  refine step ?_
  refine wp_nwG Lh fun Hi b1 e1 Li => ?_
  refine step ?_
  refine wp_blk (wp_ny ?_)
  refine wp_nwL ?_
  have Lj := Li.push (.spc (.loop 87817742 [(3, .ptr (some (b3, 0))), (4, .ptr (some (b4, 0))), (9, .ptr (some (b9, 0))), (12, .ptr (some (b12, 0)))] .ready none))
  generalize hws : [((3 : Nat), HV.ptr (some (b3, 0))), (4, .ptr (some (b4, 0))), (9, .ptr (some (b9, 0))), (12, .ptr (some (b12, 0)))] = ws at *
  generalize hlp : Hi.n = lp at *
  generalize Hi.push (.spc (.loop 87817742 ws .ready none)) = Hj at *
  replace Lj : Lg H Hj (MF b3 b4 b9 b12 b1 lp stop sm t ws 0 .ready none) [(sm, 2, ms'.map Pl.mk2)] := Lj
  clear Lf Lg1 Lh Li
  have fin2 : ∀ {H1 : Heap} {k : Nat} {st : LoopState} {pd : Option Code} {rs : List GSl}, (k = ms'.length ∨ (k : Int) = stop) → Lg H H1 (MF b3 b4 b9 b12 b1 lp stop sm t ws k st pd) ((sm, 2, ms'.map Pl.mk2) :: rs) →
      wp (jn (ldC b12 0 fun v_3 => asI .i64 v_3 fun x75 => ldC b3 0 fun v_4 => asI .i64 v_4 fun x76 =>
        cond (x75 == x76) (stC b4 0 (.bool true) (ret (.norm []))) (ldC b12 0 fun v_5 => asI .i64 v_5 fun x79 => ldC b9 0 fun v_6 => asSl v_6 fun x80 => stC b4 0 (.bool (x79 == (x80.len : Int))) (ret (.norm []))))
        fun vs_2 => nl vs_2 (ldC b4 0 fun v_7 => asB v_7 fun z0_3 => ret (.ret [.bool z0_3]))) (PFin Q) H1 := by
    intro H1 k st pd rs hk L
    have hl : sm.len = ms'.length := by have := (L.own _ (List.mem_of_getElem? (i := 0) rfl)).slR.len; simpa using this
    refine wp_jnR (fun H' => ∃ fx ss, Lg H H' ((b3, .cells [I stop] false) :: (b4, .cells [.bool true] false) :: fx) ss) ?_ ?_
    · refine wp_ldL 3 L rfl rfl ?_
      refine step ?_
      refine wp_ldL 0 L rfl rfl ?_
      refine step ⟨fun c => ?_, fun c => ?_⟩
      · refine wp_stG 1 L rfl (by simp) rfl fun H3 L3 => step ⟨_, _, L3⟩
      · refine wp_ldL 3 L rfl rfl ?_
        refine step ?_
        refine wp_ldL 2 L rfl rfl ?_
        refine step ?_
        have hb : ((k : Int) == (sm.len : Int)) = true := by
          rcases hk with hk | hk
          · rw [hl, hk, beq_iff_eq]
          · exact absurd hk c
        rw [hb]
        refine wp_stG 1 L rfl (by simp) rfl fun H3 L3 => step ⟨_, _, L3⟩
    · rintro H' ⟨fx, ss, L'⟩
      refine step ?_
      exact hfin L'
  refine wp_bnd (wp_clo hcm ?_)
  refine (Marks_1_wp (x0 := .yld lp) (J := fun i H' s => Lg H H' (MF b3 b4 b9 b12 b1 lp stop sm t ws i .ready none) [(sm, 2, ms'.map Pl.mk2), (s, 3, ms'.map Pl.cs)])
    (X := fun H' => ∃ (k : Nat) (s : Sl), (k : Int) = stop ∧ Lg H H' (MF b3 b4 b9 b12 b1 lp stop sm t ws k .done (some (.exit 0))) [(sm, 2, ms'.map Pl.mk2), (s, 3, ms'.map Pl.cs)])
    hc hr (hG.kp Lj.kp) htl ho' (Lj.lm.get (i := 4) rfl) (fun H' s k hs => Lj.addOwn k hs) (fun i H' s L => (L.own _ (List.mem_of_getElem? (i := 1) rfl)).slR) (fun i H' s m hi L => ?_)).mono ?_
  · refine wp_rnd (L.lm.get (i := 5) rfl) hrm (reads_round hi hml hws.symm L (fun H2 _ L2 => .inl ⟨rfl, L2⟩) (fun H2 hk L2 => .inr ⟨rfl, i + 1, s, by omega, L2⟩))
  · rintro r H1 (⟨s, L⟩ | ⟨k, s, hk, L⟩)
    · refine wp_endL0 (L.lm.get (i := 5) rfl) (by simp) ?_
      have L2 := L.set (i := 5) rfl (.spc (.loop 87817742 ws .exhausted none))
      refine step ?_
      exact fin2 (.inl rfl) L2
    · refine wp_endLx (L.lm.get (i := 5) rfl) (by simp) (wp_onX ?_)
      have L2 := L.set (i := 5) rfl (.spc (.loop 87817742 ws .exhausted (some (.exit 0))))
      refine step ?_
      exact fin2 (.inr hk) L2
end
end Go.Proofs.YtmfmcegpoiinjaaDoor.HM
namespace Go.Proofs.YtmfmcegpoiinjaaDoor.HM
open Go
set_option maxRecDepth 100000

theorem cut_lines : ∀ (L : List Bs), (∀ l ∈ L, ∀ x ∈ l, x ≠ (10 : UInt8)) → cutAt 10 (L.flatMap fun l => l ++ [10]) = L ++ [[]]
  | [], _ => rfl
  | l :: L, h => by
    have ih := cut_lines L fun m hm => h m (List.mem_cons_of_mem _ hm)
    rw [List.flatMap_cons, List.append_assoc]
    show cutAt 10 (l ++ 10 :: _) = _
    rw [cut_at (h l List.mem_cons_self)]
    show l :: cutAt 10 (List.flatMap (fun l => l ++ [10]) L) = _
    rw [ih]; rfl
theorem itoa_chars {v : Int} : ∀ c ∈ Lib.itoa v, c.toNat = 45 ∨ (48 ≤ c.toNat ∧ c.toNat ≤ 57) := by
  intro c hc
  unfold Lib.itoa at hc
  split at hc
  · rcases List.mem_cons.1 hc with rfl | hc
    · exact .inl rfl
    · exact .inr ((dec_ok _).1 c hc)
  · exact .inr ((dec_ok _).1 c hc)
theorem itoa_nat {v : Int} (h0 : 0 ≤ v) (h : v ≤ 99) : (∀ c ∈ Lib.itoa v, 48 ≤ c.toNat ∧ c.toNat ≤ 57) ∧ (Lib.itoa v).length ≤ 2 := by
  unfold Lib.itoa
  rw [if_neg (by omega)]
  refine ⟨fun c hc => (dec_ok _).1 c hc, ?_⟩
  by_cases h10 : v.toNat < 10
  · rw [dec_small h10]; simp
  · rw [dec_big h10, dec_small (by omega)]; simp
theorem itoa_inj {v w : Int} (hv : Int64 v) (hw : Int64 w) (h : Lib.itoa v = Lib.itoa w) : v = w := NumOk.inj (l := Lib.itoa v) ⟨hv, rfl⟩ ⟨hw, h⟩

/-- a letter. -/
def Ltr (c : UInt8) : Prop := 97 ≤ c.toNat ∧ c.toNat ≤ 122
theorem goalN_name {c : UInt8} (hc : Ltr c) {v : Int} (h0 : 0 ≤ v) (h : v ≤ 99) : nameOk (goalN [c] v) := by
  obtain ⟨h1, h2⟩ := itoa_nat h0 h
  unfold goalN
  refine ⟨by simp, by simp; omega, fun i x hx => ?_⟩
  cases i with
  | zero => simp at hx; subst hx; exact .inl hc
  | succ i =>
    have : x ∈ Lib.itoa v := List.mem_of_getElem? (i := i) (by simpa using hx)
    exact .inr ⟨by omega, (h1 x this).1, (h1 x this).2⟩
theorem goalN_inj {c : UInt8} {v w : Int} (hv : Int64 v) (hw : Int64 w) (h : goalN [c] v = goalN [c] w) : v = w := by
  unfold goalN at h
  exact itoa_inj hv hw (List.append_cancel_left h)
theorem goalN_chars {c : UInt8} (hc : Ltr c) {v : Int} : ∀ x ∈ goalN [c] v, x ≠ 10 ∧ x ≠ 32 := by
  intro x hx
  unfold goalN at hx
  unfold Ltr at hc
  have : x.toNat ≠ 10 ∧ x.toNat ≠ 32 := by
    rcases List.mem_append.1 hx with hx | hx
    · simp at hx; subst hx; omega
    · have := itoa_chars x hx; omega
  exact ⟨fun e => this.1 (by rw [e]; rfl), fun e => this.2 (by rw [e]; rfl)⟩

/-! fields -/
def fieldsT (g : Int → Bs) : Bs → List Int → List Bs
  | c :: sh, v :: f => (if c = 103 then g v else Lib.itoa v) :: fieldsT g sh f
  | _, _ => []
theorem fieldsT_chars {c : UInt8} (hc : Ltr c) : ∀ (sh : Bs) (f : List Int), ∀ l ∈ fieldsT (goalN [c]) sh f, ∀ x ∈ l, x ≠ 10 ∧ x ≠ 32
  | [], _, l, hl => by simp [fieldsT] at hl
  | _ :: _, [], l, hl => by simp [fieldsT] at hl
  | s :: sh, v :: f, l, hl => by
    rw [fieldsT] at hl
    rcases List.mem_cons.1 hl with rfl | hl
    · intro x hx
      split at hx
      · exact goalN_chars hc x hx
      · have := itoa_chars x hx
        exact ⟨fun e => by rw [e] at this; revert this; decide, fun e => by rw [e] at this; revert this; decide⟩
    · exact fieldsT_chars hc sh f l hl
theorem cut_tell {c : UInt8} (hc : Ltr c) : ∀ (sh : Bs) (f : List Int) (w : Bs), (∀ x ∈ w, x ≠ 32) → cutAt 32 (w ++ tellF (goalN [c]) sh f) = w :: fieldsT (goalN [c]) sh f
  | [], f, w, hw => by rw [tellF, fieldsT, List.append_nil]; exact cut_clean hw; all_goals simp
  | s :: sh, [], w, hw => by rw [tellF, fieldsT, List.append_nil]; exact cut_clean hw; all_goals simp
  | s :: sh, v :: f, w, hw => by
    rw [tellF, fieldsT]
    show cutAt 32 (w ++ 32 :: (_ ++ _)) = _
    have hx : ∀ x ∈ (if s = 103 then goalN [c] v else Lib.itoa v), x ≠ (32 : UInt8) := fun x hx =>
      (fieldsT_chars hc (s :: sh) (v :: f) _ (by rw [fieldsT]; exact List.mem_cons_self) x hx).2
    rw [cut_at hw, cut_tell hc sh f _ hx]
theorem tellF_chars {c : UInt8} (hc : Ltr c) : ∀ (sh : Bs) (f : List Int), ∀ x ∈ tellF (goalN [c]) sh f, x ≠ 10
  | [], _, x, hx => by simp [tellF] at hx
  | _ :: _, [], x, hx => by simp [tellF] at hx
  | s :: sh, v :: f, x, hx => by
    rw [tellF] at hx
    rcases List.mem_append.1 hx with hx | hx
    · rcases List.mem_cons.1 hx with rfl | hx
      · decide
      · exact (fieldsT_chars hc (s :: sh) (v :: f) _ (by rw [fieldsT]; exact List.mem_cons_self) x hx).1
    · exact tellF_chars hc sh f x hx

theorem words_chars : ∀ k : Fin 22, words[k.1]! ≠ [] ∧ (∀ x ∈ words[k.1]!, 97 ≤ x.toNat ∧ x.toNat ≤ 122) ∧ words[k.1]!.length ≤ 6 := by decide
theorem shapes_six : ∀ k : Fin 22, shapes[k.1]! = [] ∨ shapes[k.1]! = [110] ∨ shapes[k.1]! = [110, 110] ∨ shapes[k.1]! = [110, 110, 110] ∨ shapes[k.1]! = [103] ∨ shapes[k.1]! = [103, 110, 110] := by decide
/-- goes on somewhere. -/
def gB (x : Ins) : Bool := decide (x.op = 3) || decide (x.op = 20)
def strip (x : Ins) : Ins := if gB x = true then { x with a := 0 } else x
theorem gB_head {x : Ins} (h0 : 0 ≤ x.op) (h22 : x.op < 22) : gB x = true ↔ shapes[x.op.toNat]!.head? = some 103 := by
  rw [head_iff (by omega)]
  unfold gB
  simp; omega
theorem refNum_itoa {v : Int} (h : Int64 v) : refNum (Lib.itoa v) = some v := (refNum_ok _ _).2 ⟨h, rfl⟩

theorem fields_back {c : UInt8} (hc : Ltr c) {x : Ins} (hx : x.ok) {n : Int} (hn : n ≤ 99) (ht : toldS x n) :
    fieldsS shapes[x.op.toNat]! (fieldsT (goalN [c]) shapes[x.op.toNat]! x.f) 0 [] [0, 0, 0] = some (if gB x = true then goalN [c] x.a else [], [(strip x).a, x.b, x.c]) := by
  obtain ⟨h0, h22, hz, hg⟩ := ht
  have hh := gB_head h0 h22
  have ha := refNum_itoa hx.a
  have hb := refNum_itoa hx.b
  have hcc := refNum_itoa hx.c
  have n103 : ¬ (110 : UInt8) = 103 := by decide
  have z : ∀ (i : Nat) (v : Int), x.f[i]? = some v → shapes[x.op.toNat]!.length ≤ i → v = 0 := hz
  rcases shapes_six ⟨x.op.toNat, by omega⟩ with h | h | h | h | h | h <;> simp only at h <;> rw [h] at hh hg z ⊢
  · have hgb : gB x = false := by cases e : gB x with
      | false => rfl
      | true => exact absurd (hh.1 e) (by simp)
    have z0 := z 0 x.a rfl (by simp)
    have z1 := z 1 x.b rfl (by simp)
    have z2 := z 2 x.c rfl (by simp)
    simp only [strip, hgb, fieldsT, fieldsS, z0, z1, z2, Bool.false_eq_true, if_false]
  · have hgb : gB x = false := by cases e : gB x with
      | false => rfl
      | true => exact absurd (hh.1 e) (by simp [n103])
    have z1 := z 1 x.b rfl (by simp)
    have z2 := z 2 x.c rfl (by simp)
    simp only [strip, hgb, Ins.f, fieldsT, fieldsS, n103, if_false, ha, z1, z2]
    rfl
  · have hgb : gB x = false := by cases e : gB x with
      | false => rfl
      | true => exact absurd (hh.1 e) (by simp [n103])
    have z2 := z 2 x.c rfl (by simp)
    simp only [strip, hgb, Ins.f, fieldsT, fieldsS, n103, if_false, ha, hb, z2]
    rfl
  · have hgb : gB x = false := by cases e : gB x with
      | false => rfl
      | true => exact absurd (hh.1 e) (by simp [n103])
    simp only [strip, hgb, Ins.f, fieldsT, fieldsS, n103, if_false, ha, hb, hcc]
    rfl
  · have hgb : gB x = true := hh.2 rfl
    have hab := hg rfl
    have hnm := goalN_name hc hab.1 (Int.le_trans hab.2 hn)
    have z1 := z 1 x.b rfl (by simp)
    have z2 := z 2 x.c rfl (by simp)
    simp only [strip, hgb, Ins.f, fieldsT, fieldsS, if_true, hnm, z1, z2]
  · have hgb : gB x = true := hh.2 rfl
    have hab := hg rfl
    have hnm := goalN_name hc hab.1 (Int.le_trans hab.2 hn)
    simp only [strip, hgb, Ins.f, fieldsT, fieldsS, if_true, n103, if_false, hnm, hb, hcc]
    rfl
theorem strip_eq {x : Ins} : (⟨x.op, (strip x).a, x.b, x.c⟩ : Ins) = strip x := by
  unfold strip; split <;> rfl
theorem said_tell {c : UInt8} (hc : Ltr c) {x : Ins} (hx : x.ok) {n : Int} (hn : n ≤ 99) (ht : toldS x n) :
    said (tellS (goalN [c]) x) = some (.ins (strip x) (if gB x = true then goalN [c] x.a else [])) ∧ tellS (goalN [c]) x ≠ [] ∧ ∀ y ∈ tellS (goalN [c]) x, y ≠ 10 := by
  have hf := fields_back hc hx hn ht
  obtain ⟨h0, h22, hz, hg⟩ := ht
  obtain ⟨w1, w2, w3⟩ := words_chars ⟨x.op.toNat, by omega⟩
  simp only at w1 w2 w3
  have hk : words[x.op.toNat]? = some words[x.op.toNat]! := by
    have : x.op.toNat < words.length := by rw [show words.length = 22 from rfl]; omega
    rw [List.getElem!_eq_getElem?_getD, List.getElem?_eq_getElem this]; rfl
  have hcut := cut_tell hc shapes[x.op.toNat]! x.f words[x.op.toNat]! (fun y hy e => by have := w2 y hy; rw [e] at this; revert this; decide)
  have htc := tellF_chars hc shapes[x.op.toNat]! x.f
  unfold tellS
  generalize hw : words[x.op.toNat]! = w at *
  generalize hsh : shapes[x.op.toNat]! = sh at *
  have hne : w ++ tellF (goalN [c]) sh x.f ≠ [] := by
    intro e; exact w1 (List.append_eq_nil_iff.1 e).1
  refine ⟨?_, hne, fun y hy => ?_⟩
  · unfold said
    have hh : (w ++ tellF (goalN [c]) sh x.f).head? ≠ some 58 := by
      cases w with
      | nil => exact absurd rfl w1
      | cons y r =>
        simp only [List.cons_append, List.head?_cons, ne_eq, Option.some.injEq]
        intro e
        have := w2 y List.mem_cons_self
        rw [e] at this; revert this; decide
    rw [if_neg hh, hcut, List.headD_cons, idx_some hk]
    simp only
    rw [hsh, List.drop_one, List.tail_cons, hf]
    simp only [List.getD_cons_zero, List.getD_cons_succ]
    rw [show ((x.op.toNat : Nat) : Int) = x.op by omega, strip_eq]
  · rcases List.mem_append.1 hy with hy | hy
    · intro e; have := w2 y hy; rw [e] at this; revert this; decide
    · exact htc y hy
theorem said_goal {c : UInt8} (hc : Ltr c) {v : Int} (h0 : 0 ≤ v) (h : v ≤ 99) : said (58 :: goalN [c] v) = some (.mark (goalN [c] v)) := by
  unfold said
  rw [if_pos (by rfl)]
  rw [List.drop_one, List.tail_cons, if_pos (goalN_name hc h0 h)]
end Go.Proofs.YtmfmcegpoiinjaaDoor.HM
namespace Go.Proofs.YtmfmcegpoiinjaaDoor.HM
open Go
set_option maxRecDepth 100000

/-- what is written for one place, line by line. -/
def linesT (g : Int → Bs) (p : List Ins) (i : Nat) : List Bs := (if isT p i = true then [58 :: g i] else []) ++ (match p[i]? with
  | some x => [tellS g x]
  | none => [])
theorem lineT_lines (g : Int → Bs) (p : List Ins) (i : Nat) : lineT g p i = (linesT g p i).flatMap fun l => l ++ [10] := by
  unfold lineT linesT
  rw [List.flatMap_append]
  congr 1
  · split <;> simp
  · cases p[i]? <;> simp
theorem textT_lines (g : Int → Bs) (p : List Ins) (i : Nat) : textT g p i = ((List.range i).flatMap (linesT g p)).flatMap fun l => l ++ [10] := by
  unfold textT
  rw [List.flatMap_assoc]
  congr 1; funext k; exact lineT_lines g p k
def pk (p : List Ins) (k : Nat) : Ins := p[k]?.getD ⟨0, 0, 0, 0⟩
def marksP (g : Int → Bs) (p : List Ins) (i : Nat) : List (Bs × Int) := ((List.range i).filter fun k : Nat => isT p (k : Int)).map fun k : Nat => (g (k : Int), (k : Int))
def goalsP (g : Int → Bs) (p : List Ins) (j m : Nat) : List (Bs × Int) := ((List.range' j m).filter fun k => gB (pk p k)).map fun k => (g (pk p k).a, (k : Int))
abbrev nmAt (m : Pl) : Bs × Int := (m.name, m.at_)
structure Iv (g : Int → Bs) (p : List Ins) (i : Nat) (st : Sht) : Prop where
  prog : st.prog = (p.take i).map strip
  marks : st.marks.map nmAt = marksP g p i
  goals : st.goals.map nmAt = goalsP g p 0 i
theorem marksP_succ (g : Int → Bs) (p : List Ins) (i : Nat) : marksP g p (i + 1) = marksP g p i ++ (if isT p (i : Int) = true then [(g (i : Int), (i : Int))] else []) := by
  unfold marksP
  rw [List.range_succ, List.filter_append, List.map_append]
  congr 1
  by_cases h : isT p (i : Int) = true <;> simp [h]
theorem goalsP_succ (g : Int → Bs) (p : List Ins) (i : Nat) : goalsP g p 0 (i + 1) = goalsP g p 0 i ++ (if gB (pk p i) = true then [(g (pk p i).a, (i : Int))] else []) := by
  unfold goalsP
  rw [List.range'_concat, List.filter_append, List.map_append]
  congr 1
  by_cases h : gB (pk p i) = true <;> simp [h]
theorem goalsP_cons (g : Int → Bs) (p : List Ins) (j m : Nat) : goalsP g p j (m + 1) = (if gB (pk p j) = true then [(g (pk p j).a, (j : Int))] else []) ++ goalsP g p (j + 1) m := by
  unfold goalsP
  rw [List.range'_succ]
  by_cases h : gB (pk p j) = true <;> simp [h]
theorem pk_at {p : List Ins} {k : Nat} (h : k < p.length) : pk p k = p[k] := by unfold pk; rw [List.getElem?_eq_getElem h]; rfl
theorem names_map {l : List Pl} {L : List (Bs × Int)} (h : l.map nmAt = L) (w : Bs) : w ∈ l.map Pl.name ↔ w ∈ L.map Prod.fst := by
  rw [← h, List.map_map]; rfl
theorem take_mark' {n : Int} {s m : Bs} {st : Sht} (h : said s = some (.mark m)) (hm : m ∉ st.marks.map Pl.name) : takeS n s st = some { st with marks := st.marks ++ [⟨m, n, st.prog.length⟩] } := by
  unfold takeS; rw [h]; exact if_neg hm
theorem take_mark2 {n : Int} {s m : Bs} {st : Sht} (h : said s = some (.mark m)) (hm : m ∈ st.marks.map Pl.name) : takeS n s st = none := by
  unfold takeS; rw [h]; exact if_pos hm
theorem take_ins' {n : Int} {s g : Bs} {x : Ins} {st : Sht} (h : said s = some (.ins x g)) (hl : st.prog.length < 48) : takeS n s st = some ⟨st.prog ++ [x], st.marks, if g = [] then st.goals else st.goals ++ [⟨g, n, st.prog.length⟩]⟩ := by
  unfold takeS; rw [h]; exact if_neg (by omega)

section
variable {c : UInt8} {p : List Ins}
/-- the pass over what is written. -/
theorem pass_told (hc : Ltr c) (hl : p.length ≤ 48) (ht : ∀ x ∈ p, toldS x p.length) (hok : ∀ x ∈ p, x.ok) : ∀ (m i a : Nat) (st : Sht), i + m = p.length + 1 → Iv (goalN [c]) p i st →
    ∃ st', passS a ((List.range' i m).flatMap (linesT (goalN [c]) p) ++ [[]]) st = .inl st' ∧ Iv (goalN [c]) p (p.length + 1) st'
  | 0, i, a, st, him, hI => by
    refine ⟨st, ?_, ?_⟩
    · rw [List.range'_zero, List.flatMap_nil, List.nil_append, passS_nil, passS_end]
    · rw [show p.length + 1 = i by omega]; exact hI
  | m + 1, i, a, st, him, hI => by
    rw [List.range'_succ, List.flatMap_cons, List.append_assoc]
    generalize hrest : (List.range' (i + 1) m).flatMap (linesT (goalN [c]) p) ++ [[]] = rest
    have ih := pass_told hc hl ht hok m (i + 1)
    rw [hrest] at ih
    have hpl : st.prog.length = i := by rw [hI.prog]; simp; omega
    have hi64 : ∀ k : Nat, k ≤ 48 → Int64 (k : Int) := fun k hk => by unfold Int64; omega
    -- the mark
    obtain ⟨a1, st1, h1, h2, h3, h4⟩ : ∃ a1 st1, passS a (linesT (goalN [c]) p i ++ rest) st = passS a1 ((match p[i]? with | some x => [tellS (goalN [c]) x] | none => []) ++ rest) st1 ∧ st1.prog = st.prog ∧ st1.goals = st.goals ∧ st1.marks.map nmAt = marksP (goalN [c]) p (i + 1) := by
      unfold linesT
      by_cases hm : isT p (i : Int) = true
      · rw [if_pos hm, List.append_assoc, List.singleton_append]
        have hs := said_goal hc (v := (i : Int)) (by omega) (by omega)
        have hnm : goalN [c] (i : Int) ∉ st.marks.map Pl.name := by
          rw [names_map hI.marks]
          intro hh
          obtain ⟨y, hy, hye⟩ := List.mem_map.1 hh
          unfold marksP at hy
          obtain ⟨k, hk, rfl⟩ := List.mem_map.1 hy
          have hk1 := List.mem_range.1 (List.mem_filter.1 hk).1
          have := goalN_inj (hi64 k (by omega)) (hi64 i (by omega)) hye
          omega
        refine ⟨a + 1, _, passS_yes (by simp) (take_mark' hs hnm), rfl, rfl, ?_⟩
        rw [marksP_succ, if_pos hm, List.map_append, hI.marks]
        simp only [List.map_cons, List.map_nil, nmAt, hpl]
      · rw [if_neg hm, List.nil_append]
        exact ⟨a, st, rfl, rfl, rfl, by rw [marksP_succ, if_neg hm, List.append_nil]; exact hI.marks⟩
    rw [h1]
    cases hp : p[i]? with
    | none =>
      have hge : p.length ≤ i := List.getElem?_eq_none_iff.1 hp
      obtain ⟨st', q1, q2⟩ := ih a1 st1 (by omega) ⟨by rw [h2, hI.prog, List.take_of_length_le (by omega), List.take_of_length_le (by omega)], h4, by
        rw [h3, goalsP_succ, hI.goals]
        have : gB (pk p i) = false := by unfold pk; rw [hp]; rfl
        rw [this]; simp⟩
      exact ⟨st', q1, q2⟩
    | some x =>
      have hip := (List.getElem?_eq_some_iff.1 hp).1
      have hx := (List.getElem?_eq_some_iff.1 hp).2
      have hmem : x ∈ p := by rw [← hx]; exact List.getElem_mem hip
      obtain ⟨s1, s2, s3⟩ := said_tell hc (hok x hmem) (n := p.length) (by omega) (ht x hmem)
      have hpk : pk p i = x := by rw [pk_at hip, hx]
      have hst := take_ins' (n := (a1 : Int) + 1) (st := st1) s1 (by rw [h2, hpl]; omega)
      obtain ⟨st', q1, q2⟩ := ih (a1 + 1) ⟨st1.prog ++ [strip x], st1.marks, if (if gB x = true then goalN [c] x.a else []) = [] then st1.goals else st1.goals ++ [⟨if gB x = true then goalN [c] x.a else [], (a1 : Int) + 1, st1.prog.length⟩]⟩ (by omega) ⟨(by
        show st1.prog ++ [strip x] = _
        rw [h2, hI.prog, List.take_succ_eq_append_getElem hip, List.map_append, hx]; rfl), h4, (by
        show (if (if gB x = true then goalN [c] x.a else []) = [] then st1.goals else st1.goals ++ [⟨if gB x = true then goalN [c] x.a else [], (a1 : Int) + 1, st1.prog.length⟩]).map nmAt = _
        rw [goalsP_succ, hpk, h3, h2, hpl]
        by_cases hg : gB x = true
        · rw [if_pos hg, if_pos hg, if_neg (by simp [goalN]), List.map_append, hI.goals]; rfl
        · rw [if_neg hg, if_neg hg, if_pos rfl, hI.goals, List.append_nil])⟩
      refine ⟨st', ?_, q2⟩
      rw [List.singleton_append, passS_yes s2 hst]
      exact q1
theorem find_nmAt {l : List Pl} {w : Bs} {x : Bs × Int} (h : (l.map nmAt).find? (fun x => decide (x.1 = w)) = some x) : ∃ m, (l.find? fun m => decide (m.name = w)) = some m ∧ nmAt m = x := by
  rw [List.find?_map] at h
  obtain ⟨m, h1, h2⟩ := Option.map_eq_some_iff.1 h
  exact ⟨m, h1, h2⟩
/-- a goal's mark. -/
theorem find_markP (hl : p.length ≤ 48) {k : Nat} (hk : k ≤ p.length) (hT : isT p (k : Int) = true) : (marksP (goalN [c]) p (p.length + 1)).find? (fun x => decide (x.1 = goalN [c] (k : Int))) = some (goalN [c] (k : Int), (k : Int)) := by
  have hi64 : ∀ k : Nat, k ≤ 48 → Int64 (k : Int) := fun k hk => by unfold Int64; omega
  have hmem : (goalN [c] (k : Int), (k : Int)) ∈ marksP (goalN [c]) p (p.length + 1) := by
    unfold marksP
    exact List.mem_map.2 ⟨k, List.mem_filter.2 ⟨List.mem_range.2 (by omega), hT⟩, rfl⟩
  cases hf : (marksP (goalN [c]) p (p.length + 1)).find? (fun x => decide (x.1 = goalN [c] (k : Int))) with
  | none =>
    have := List.find?_eq_none.1 hf _ hmem
    simp at this
  | some y =>
    have h1 := List.find?_some hf
    have h2 := List.mem_of_find?_eq_some hf
    unfold marksP at h2
    obtain ⟨j, hj, rfl⟩ := List.mem_map.1 h2
    have hj1 := List.mem_range.1 (List.mem_filter.1 hj).1
    simp only [decide_eq_true_eq] at h1
    have := goalN_inj (c := c) (hi64 j (by omega)) (hi64 k (by omega)) h1
    have : j = k := by omega
    subst this; rfl
theorem setA_mid {q : List Ins} {y : Ins} {r : List Ins} {a : Int} : setA (q ++ y :: r) q.length a = q ++ { y with a := a } :: r := by
  unfold setA
  induction q with
  | nil => rfl
  | cons z q ih => simp only [List.cons_append, List.length_cons, List.modify_succ_cons]; rw [ih]
/-- goals get their places again. -/
theorem link_told (hl : p.length ≤ 48) (ht : ∀ x ∈ p, toldS x p.length) {ms : List Pl} (hm : ms.map nmAt = marksP (goalN [c]) p (p.length + 1)) : ∀ (m j : Nat) (gs : List Pl), p.length ≤ j + m → gs.map nmAt = goalsP (goalN [c]) p j m →
    linkS gs ms (p.take j ++ (p.drop j).map strip) = .inl p
  | 0, j, gs, hj, hg => by
    have : gs = [] := by
      have : gs.map nmAt = [] := hg
      exact List.map_eq_nil_iff.1 this
    subst this
    rw [linkS, List.take_of_length_le (by omega), List.drop_eq_nil_of_le (by omega), List.map_nil, List.append_nil]
  | m + 1, j, gs, hj, hg => by
    have ih := link_told hl ht hm m (j + 1)
    rcases Nat.lt_or_ge j p.length with hjp | hjp
    · rw [goalsP_cons] at hg
      have hpk := pk_at hjp
      have hmem := List.getElem_mem hjp
      rw [List.take_succ_eq_append_getElem hjp] at ih
      rw [List.drop_eq_getElem_cons hjp, List.map_cons]
      rw [hpk] at hg
      by_cases hG : gB p[j] = true
      · rw [if_pos hG] at hg
        cases gs with
        | nil => simp at hg
        | cons g0 gs =>
          simp only [List.map_cons, List.singleton_append, List.cons.injEq] at hg
          obtain ⟨hg0, hgs⟩ := hg
          simp only [nmAt, Prod.mk.injEq] at hg0
          have htd := ht _ hmem
          have hab := htd.2.2.2 ((gB_head htd.1 htd.2.1).1 hG)
          obtain ⟨k, hk⟩ : ∃ k : Nat, p[j].a = (k : Int) := ⟨p[j].a.toNat, by omega⟩
          have hT : isT p (k : Int) = true := by
            unfold isT
            rw [List.any_eq_true]
            refine ⟨_, hmem, ?_⟩
            unfold gB at hG
            rw [hG, hk]; simp
          have hf := find_markP (c := c) hl (k := k) (by omega) hT
          rw [← hm, ← hk, ← hg0.1] at hf
          obtain ⟨m0, hm0, hm1⟩ := find_nmAt hf
          simp only [nmAt, Prod.mk.injEq] at hm1
          rw [linkS, hm0]
          simp only
          rw [hg0.2, hm1.2]
          have hjt : ((j : Nat) : Int).toNat = (p.take j).length := by simp; omega
          rw [hjt, setA_mid]
          have hst : ({ strip p[j] with a := p[j].a } : Ins) = p[j] := by unfold strip; rw [if_pos hG]
          rw [hst]
          have := ih gs (by omega) hgs
          rw [List.append_assoc, List.singleton_append] at this
          exact this
      · rw [if_neg hG, List.nil_append] at hg
        have hst : strip p[j] = p[j] := by unfold strip; rw [if_neg hG]
        rw [hst]
        have := ih gs (by omega) hg
        rw [List.append_assoc, List.singleton_append] at this
        exact this
    · have hg2 : gs.map nmAt = goalsP (goalN [c]) p (j + 1) m := by
        rw [goalsP_cons] at hg
        have : gB (pk p j) = false := by unfold pk; rw [List.getElem?_eq_none hjp]; rfl
        rw [this] at hg; simpa using hg
      have := ih gs (by omega) hg2
      rw [List.take_of_length_le (by omega), List.drop_eq_nil_of_le (by omega)] at this ⊢
      exact this
theorem flatMap_len {α β : Type} {f : α → List β} {n : Nat} : ∀ (l : List α), (∀ x ∈ l, (f x).length ≤ n) → (l.flatMap f).length ≤ n * l.length
  | [], _ => by simp
  | x :: l, h => by
    have := flatMap_len l fun y hy => h y (List.mem_cons_of_mem _ hy)
    have := h x List.mem_cons_self
    rw [List.flatMap_cons, List.length_append, List.length_cons, Nat.mul_succ]; omega
theorem text_len (hl : p.length ≤ 48) (ht : ∀ x ∈ p, toldS x p.length) (hok : ∀ x ∈ p, x.ok) : (textT (goalN [c]) p (p.length + 1)).length ≤ 4096 := by
  have key : ∀ (sh : Bs) (f : List Int), (∀ v ∈ f, Int64 v) → (tellF (goalN [c]) sh f).length ≤ 22 * sh.length := by
    intro sh
    induction sh with
    | nil => intro f _; simp [tellF]
    | cons s sh ih =>
      intro f hf
      cases f with
      | nil => simp [tellF]
      | cons v f =>
        have h1 := ih f (fun w hw => hf w (List.mem_cons_of_mem _ hw))
        have h2 := itoa_len (hf v List.mem_cons_self)
        rw [tellF]
        split
        · simp [goalN]; omega
        · simp; omega
  have h1 : ∀ i ∈ List.range (p.length + 1), (lineT (goalN [c]) p i).length ≤ 83 := by
    intro i hi
    have hi := List.mem_range.1 hi
    have hg := (itoa_nat (v := (i : Int)) (by omega) (by omega)).2
    unfold lineT
    rw [List.length_append]
    have e1 : (if isT p (i : Int) = true then 58 :: (goalN [c] (i : Int) ++ [10]) else []).length ≤ 5 := by
      split
      · simp [goalN]; omega
      · simp
    cases hp : p[i]? with
    | none => simp only [List.length_nil]; omega
    | some x =>
      have hmem := List.mem_of_getElem? hp
      have htd := ht x hmem
      obtain ⟨q1, q2, q3, q4, q5⟩ := sh_at (k := x.op.toNat) (by have := htd.1; have := htd.2.1; omega)
      have ho := hok x hmem
      have hfi : ∀ v ∈ x.f, Int64 v := by
        intro v hv
        simp only [Ins.f, List.mem_cons, List.not_mem_nil, or_false] at hv
        rcases hv with rfl | rfl | rfl
        · exact ho.a
        · exact ho.b
        · exact ho.c
      have := key shapes[x.op.toNat]! x.f hfi
      simp only [tellS, List.length_append, List.length_cons, List.length_nil]
      omega
  have := flatMap_len _ h1
  unfold textT
  rw [List.length_range] at this
  omega
/-- WHAT IS WRITTEN IS READ AGAIN. -/
theorem read_told (hc : Ltr c) (hl : p.length ≤ 48) (ht : ∀ x ∈ p, toldS x p.length) (hok : ∀ x ∈ p, x.ok) : ∃ ms, readS (textT (goalN [c]) p (p.length + 1)) = .inl (p, ms) := by
  have hlen := text_len (c := c) hl ht hok
  have hcut : cutAt 10 (textT (goalN [c]) p (p.length + 1)) = (List.range (p.length + 1)).flatMap (linesT (goalN [c]) p) ++ [[]] := by
    rw [textT_lines]
    refine cut_lines _ fun l hl2 x hx => ?_
    obtain ⟨i, hi, hl3⟩ := List.mem_flatMap.1 hl2
    have hi := List.mem_range.1 hi
    unfold linesT at hl3
    rcases List.mem_append.1 hl3 with h | h
    · split at h
      · simp at h; subst h
        rcases List.mem_cons.1 hx with rfl | hx
        · decide
        · exact (goalN_chars hc x hx).1
      · cases h
    · cases hp : p[i]? with
      | none => rw [hp] at h; cases h
      | some y =>
        rw [hp] at h
        simp at h; subst h
        have hmem := List.mem_of_getElem? hp
        exact (said_tell hc (hok y hmem) (n := p.length) (by omega) (ht y hmem)).2.2 x hx
  obtain ⟨st, h1, h2⟩ := pass_told hc hl ht hok (p.length + 1) 0 0 ⟨[], [], []⟩ (by omega) ⟨by simp, by simp [marksP], by simp [goalsP]⟩
  rw [← List.range_eq_range'] at h1
  refine ⟨st.marks, ?_⟩
  unfold readS
  rw [if_neg (by omega), hcut, h1]
  simp only
  have hlk := link_told hl ht h2.marks (p.length + 1) 0 st.goals (by omega) h2.goals
  rw [List.take_zero, List.drop_zero, List.nil_append] at hlk
  have hpr : st.prog = p.map strip := by rw [h2.prog, List.take_of_length_le (by omega)]
  rw [hpr, hlk]
end
end Go.Proofs.YtmfmcegpoiinjaaDoor.HM
namespace Go.Proofs.YtmfmcegpoiinjaaDoor.HM
open Go
set_option maxRecDepth 100000

/-- what writing a program comes to. -/
def WOut (g : Int → Bs) (p : List Ins) (t : Bs) (e : Int) : Prop := (writeS g p = .inl t ∧ e = 0) ∨ (writeS g p = .inr e ∧ t = [] ∧ e ≠ 0)
theorem WOut.inj {g : Int → Bs} {p : List Ins} {t t' : Bs} {e e' : Int} (h : WOut g p t e) (h' : WOut g p t' e') : t' = t ∧ e' = e := by
  rcases h with ⟨h, rfl⟩ | ⟨h, rfl, _⟩ <;> rcases h' with ⟨h', rfl⟩ | ⟨h', rfl, _⟩ <;> rw [h] at h' <;> cases h' <;> exact ⟨rfl, rfl⟩
theorem writeS_e {g : Int → Bs} {p : List Ins} {e : Int} (h : writeS g p = .inr e) : e ≠ 0 := by
  unfold writeS at h
  split at h
  · cases h; decide
  · split at h
    · cases h
    · cases h; decide
theorem writeS_t {g : Int → Bs} {p : List Ins} {t : Bs} (h : writeS g p = .inl t) : p.length ≤ 48 ∧ (∀ x ∈ p, toldS x p.length) ∧ t = textT g p (p.length + 1) := by
  unfold writeS at h
  split at h
  · cases h
  · split at h
    · rename_i h1 h2
      cases h
      exact ⟨by omega, h2, rfl⟩
    · cases h
theorem WOut.read {c : UInt8} (hc : Ltr c) {p : List Ins} (hok : ∀ x ∈ p, x.ok) {t : Bs} (h : WOut (goalN [c]) p t 0) : (∃ ms, readS t = .inl (p, ms)) ∧ t.length ≤ 9223372036854775807 := by
  rcases h with ⟨h, _⟩ | ⟨_, _, h⟩
  · obtain ⟨h1, h2, rfl⟩ := writeS_t h
    have := text_len (c := c) h1 h2 hok
    exact ⟨read_told hc h1 h2 hok, by omega⟩
  · exact absurd rfl h
theorem ltr_p : Ltr 112 := by unfold Ltr; decide
section
variable {H : Heap} {Q : HV → Heap → Prop}
theorem Write_out {D : HV → List HV → M HV} (hG : Gl H) {s : Sl} {p : List Ins} (hs : RProg H s p) (hp : ∀ x ∈ p, x.ok)
    (h : ∀ t e H', WOut (goalN [112]) p t e → Kp H H' → Q (.tup [.str (S t), I e]) H') : wp (f_label_Write D [.sl s]) Q H :=
  label_Write_wp hG hs hp (fun t H' ht k => h t 0 H' (.inl ⟨by rw [← goalP_N]; exact ht, rfl⟩) k) (fun e H' ht k => h [] e H' (.inr ⟨by rw [← goalP_N]; exact ht, rfl, writeS_e ht⟩) k)
theorem RWrite_out {D : HV → List HV → M HV} (hG : Gl H) {s : Sl} {p : List Ins} (hs : RProg H s p) (hp : ∀ x ∈ p, x.ok) {n : Bs} (hn : n.length ≤ 100)
    (h : ∀ t e H', WOut (goalN n) p t e → Kp H H' → Q (.tup [.str (S t), I e]) H') : wp (f_ref26_Write D [.sl s, .str (S n)]) Q H :=
  RWrite_wp hG hs hp hn (fun t H' ht k => h t 0 H' (.inl ⟨ht, rfl⟩) k) (fun e H' ht k => h [] e H' (.inr ⟨ht, rfl, writeS_e ht⟩) k)

theorem LabelReturns_wp {cl : List (Nat × Clo)} {rn : List (Nat × Rnd)} {D0 : DD} (hc : lkA cl n_label_lines_1 = some f_label_lines_1) (hr : lkA rn 96110293 = some r0_label_read) (hG : Gl H)
    {s : Sl} {p : List Ins} (hs : RProg H s p) (hp : ∀ x ∈ p, x.ok) (h : ∀ H', Q (.bool true) H') : wp (f_law26_LabelReturns (stepD cl rn (stepD cl rn D0)) [.sl s]) Q H := by
  unfold f_law26_LabelReturns
  refine step (wp_bnd (alive_wp hc hr hG fun H1 k1 => step ?_))
  refine wp_bnd (Write_out (hG.kp k1) (hs.keeps k1.k) hp fun t e H2 hw k2 => step ?_)
  have K2 := k1.trans k2
  refine wp_bnd (RWrite_out (n := [112]) (hG.kp K2) (hs.keeps K2.k) hp (by decide) fun t' e' H3 hw' k3 => step ⟨fun c => ?_, fun c => ?_⟩)
  · obtain ⟨rfl, rfl⟩ := hw.inj hw'
    have ht : t' = [] := by
      rcases hw with ⟨_, hh⟩ | ⟨_, hh, _⟩
      · exact absurd hh c
      · exact hh
    refine wp_jnV [.bool true] ?_ (step (h _))
    refine step ⟨fun _ => ?_, fun hh => absurd hh c⟩
    subst ht
    rw [show ((S []).toList == (ByteArray.mk #[]).toList) = true by rw [beq_iff_eq, ← S_nil]]
  · obtain ⟨rfl, rfl⟩ := hw.inj hw'
    subst c
    have K3 := K2.trans k3
    obtain ⟨⟨ms, hrd⟩, htl⟩ := hw.read ltr_p hp
    refine wp_bnd (Read_out hc hr (hG.kp K3) htl fun q ms' n e H4 sp ho k4 hq => step ?_)
    obtain ⟨rfl, _, rfl, rfl⟩ := Out.inj (.inl ⟨hrd, rfl, rfl⟩) ho
    refine wp_jnV [.bool true] ?_ (step (h _))
    refine step ⟨fun _ => ⟨fun _ => ⟨fun _ => ?_, fun hh => absurd rfl hh⟩, fun hh => absurd rfl hh⟩, fun hh => absurd rfl hh⟩
    refine wp_bnd (same_wp (hs.keeps (K3.trans k4).k) hq fun b hb => step ?_)
    have : b = true := hb.2 rfl
    subst this; rfl
theorem letter_ok (x : Int) : ∃ c : UInt8, Ltr c ∧ strB [IntKind.wrap .u8 (97 + (IntKind.wrap .u8 (Int.tmod (IntKind.wrap .u64 x) 26)))] = S [c] := by
  have h1 : IntKind.wrap .u64 x = x % 18446744073709551616 := w64 x
  have h2 : 0 ≤ x % 18446744073709551616 := Int.emod_nonneg _ (by decide)
  have h3 : Int.tmod (x % 18446744073709551616) 26 = (x % 18446744073709551616) % 26 := Int.tmod_eq_emod_of_nonneg h2
  rw [h1, h3, IntKind.wrap_u8, IntKind.wrap_u8]
  refine ⟨UInt8.ofNat ((97 + x % 18446744073709551616 % 26 % 256) % 256).toNat, ?_, rfl⟩
  unfold Ltr
  rw [UInt8.toNat_ofNat']
  omega
theorem LabelNames_wp {cl : List (Nat × Clo)} {rn : List (Nat × Rnd)} {D0 : DD} (hc : lkA cl n_label_lines_1 = some f_label_lines_1) (hr : lkA rn 96110293 = some r0_label_read) (hG : Gl H)
    {s : Sl} {p : List Ins} (hs : RProg H s p) (hp : ∀ x ∈ p, x.ok) {m : Int} (h : ∀ H', Q (.bool true) H') : wp (f_law26_LabelNames (stepD cl rn (stepD cl rn D0)) [.sl s, I m]) Q H := by
  unfold f_law26_LabelNames
  refine step (wp_bnd (alive_wp hc hr hG fun H1 k1 => step ?_))
  obtain ⟨c, hlc, hce⟩ := letter_ok m
  rw [hce]
  refine wp_bnd (RWrite_out (n := [c]) (hG.kp k1) (hs.keeps k1.k) hp (by simp) fun t e H3 hw k3 => step ⟨fun _ => h _, fun he => ?_⟩)
  subst he
  have K3 := k1.trans k3
  obtain ⟨⟨ms, hrd⟩, htl⟩ := hw.read hlc hp
  refine wp_bnd (Read_out hc hr (hG.kp K3) htl fun q ms' n e H4 sp ho k4 hq => step ?_)
  obtain ⟨rfl, _, rfl, rfl⟩ := Out.inj (.inl ⟨hrd, rfl, rfl⟩) ho
  refine wp_jnV [.bool true] ?_ (step (h _))
  refine step ⟨fun _ => ⟨fun _ => ?_, fun hh => absurd rfl hh⟩, fun hh => absurd rfl hh⟩
  refine wp_bnd (same_wp (hs.keeps (K3.trans k4).k) hq fun b hb => step ?_)
  have : b = true := hb.2 rfl
  subst this; rfl
end

/-! what was read can be written -/
theorem fields_num {sh : Bs} {x : Bs} {xs : List Bs} {i : Nat} {g : Bs} {f : List Int} {r : Bs × List Int} (h : fieldsS (110 :: sh) (x :: xs) i g f = some r) : ∃ n, Int64 n ∧ fieldsS sh xs (i + 1) g (f.set i n) = some r := by
  rw [fieldsS, if_neg (by decide)] at h
  cases hn : refNum x with
  | none => rw [hn] at h; cases h
  | some n => rw [hn] at h; exact ⟨n, ((refNum_ok _ _).1 hn).1, h⟩
theorem fields_goal {sh : Bs} {x : Bs} {xs : List Bs} {i : Nat} {g : Bs} {f : List Int} {r : Bs × List Int} (h : fieldsS (103 :: sh) (x :: xs) i g f = some r) : nameOk x ∧ fieldsS sh xs (i + 1) x f = some r := by
  rw [fieldsS, if_pos rfl] at h
  split at h
  · rename_i hn; exact ⟨hn, h⟩
  · cases h
theorem fields_nil {xs : List Bs} {i : Nat} {g : Bs} {f : List Int} {r : Bs × List Int} (h : fieldsS [] xs i g f = some r) : r = (g, f) := by
  cases xs with
  | nil => rw [fieldsS] at h; cases h; rfl
  | cons x xs => simp [fieldsS] at h
theorem fields_cons {c : UInt8} {sh : Bs} {xs : List Bs} {i : Nat} {g : Bs} {f : List Int} {r : Bs × List Int} (h : fieldsS (c :: sh) xs i g f = some r) : ∃ x ys, xs = x :: ys := by
  cases xs with
  | nil => simp [fieldsS] at h
  | cons x xs => exact ⟨x, xs, rfl⟩
/-- an instruction as a line says it. -/
structure InsOk (x : Ins) : Prop where
  op : 0 ≤ x.op ∧ x.op < 22
  ok : x.ok
  z : ∀ (i : Nat) (v : Int), x.f[i]? = some v → shapes[x.op.toNat]!.length ≤ i → v = 0
theorem said_ok {s g : Bs} {x : Ins} (h : said s = some (.ins x g)) : InsOk x ∧ (shapes[x.op.toNat]!.head? = some 103 → x.a = 0) ∧ (g ≠ [] → shapes[x.op.toNat]!.head? = some 103) := by
  have hh := said_ins_head h
  unfold said at h
  rw [if_neg hh] at h
  split at h
  · cases h
  · rename_i k hk
    split at h
    · rename_i g' f hf
      cases h
      have hk22 : k < 22 := by
        rw [List.idxOf?, List.findIdx?_eq_some_iff_getElem] at hk
        exact hk.1
      have hk0 : (0 : Int) ≤ (k : Int) := by omega
      have hk1 : (k : Int) < 22 := by omega
      have i0 : Int64 0 := by unfold Int64; omega
      have ik : Int64 (k : Int) := by unfold Int64; omega
      simp only [Int.toNat_natCast]
      rcases shapes_six ⟨k, hk22⟩ with e | e | e | e | e | e <;> simp only at e <;> rw [e] at hf ⊢
      · have := fields_nil hf
        cases this
        refine ⟨⟨⟨hk0, hk1⟩, ⟨ik, i0, i0, i0⟩, fun i v hv hl => ?_⟩, fun hh => (by simp at hh), fun hh => absurd rfl hh⟩
        match i, hv with
        | 0, hv => cases hv; rfl
        | 1, hv => cases hv; rfl
        | 2, hv => cases hv; rfl
      · obtain ⟨a, ys, ha⟩ := fields_cons hf
        rw [ha] at hf
        obtain ⟨n, hn, hf⟩ := fields_num hf
        have := fields_nil hf
        cases this
        refine ⟨⟨⟨hk0, hk1⟩, ⟨ik, hn, i0, i0⟩, fun i v hv hl => ?_⟩, fun hh => absurd hh (by decide), fun hh => absurd rfl hh⟩
        simp only [Int.toNat_natCast, e] at hl
        match i, hv with
        | 0, hv => simp at hl
        | 1, hv => cases hv; rfl
        | 2, hv => cases hv; rfl
      · obtain ⟨a, ys, ha⟩ := fields_cons hf
        rw [ha] at hf
        obtain ⟨n, hn, hf⟩ := fields_num hf
        obtain ⟨a, ys, ha⟩ := fields_cons hf
        rw [ha] at hf
        obtain ⟨n2, hn2, hf⟩ := fields_num hf
        have := fields_nil hf
        cases this
        refine ⟨⟨⟨hk0, hk1⟩, ⟨ik, hn, hn2, i0⟩, fun i v hv hl => ?_⟩, fun hh => absurd hh (by decide), fun hh => absurd rfl hh⟩
        simp only [Int.toNat_natCast, e] at hl
        match i, hv with
        | 0, hv => simp at hl
        | 1, hv => simp at hl
        | 2, hv => cases hv; rfl
      · obtain ⟨a, ys, ha⟩ := fields_cons hf
        rw [ha] at hf
        obtain ⟨n, hn, hf⟩ := fields_num hf
        obtain ⟨a, ys, ha⟩ := fields_cons hf
        rw [ha] at hf
        obtain ⟨n2, hn2, hf⟩ := fields_num hf
        obtain ⟨a, ys, ha⟩ := fields_cons hf
        rw [ha] at hf
        obtain ⟨n3, hn3, hf⟩ := fields_num hf
        have := fields_nil hf
        cases this
        refine ⟨⟨⟨hk0, hk1⟩, ⟨ik, hn, hn2, hn3⟩, fun i v hv hl => ?_⟩, fun hh => absurd hh (by decide), fun hh => absurd rfl hh⟩
        simp only [Int.toNat_natCast, e] at hl
        match i, hv with
        | 0, hv => simp at hl
        | 1, hv => simp at hl
        | 2, hv => simp at hl
      · obtain ⟨a, ys, ha⟩ := fields_cons hf
        rw [ha] at hf
        obtain ⟨hn, hf⟩ := fields_goal hf
        have := fields_nil hf
        cases this
        refine ⟨⟨⟨hk0, hk1⟩, ⟨ik, i0, i0, i0⟩, fun i v hv hl => ?_⟩, fun _ => rfl, fun _ => rfl⟩
        match i, hv with
        | 0, hv => cases hv; rfl
        | 1, hv => cases hv; rfl
        | 2, hv => cases hv; rfl
      · obtain ⟨a, ys, ha⟩ := fields_cons hf
        rw [ha] at hf
        obtain ⟨hn, hf⟩ := fields_goal hf
        obtain ⟨a, ys, ha⟩ := fields_cons hf
        rw [ha] at hf
        obtain ⟨n2, hn2, hf⟩ := fields_num hf
        obtain ⟨a, ys, ha⟩ := fields_cons hf
        rw [ha] at hf
        obtain ⟨n3, hn3, hf⟩ := fields_num hf
        have := fields_nil hf
        cases this
        refine ⟨⟨⟨hk0, hk1⟩, ⟨ik, i0, hn2, hn3⟩, fun i v hv hl => ?_⟩, fun _ => rfl, fun _ => rfl⟩
        simp only [Int.toNat_natCast, e] at hl
        match i, hv with
        | 0, hv => simp at hl
        | 1, hv => simp at hl
        | 2, hv => simp at hl
    · cases h
structure RdI (st : Sht) : Prop where
  len : st.prog.length ≤ 48
  prog : ∀ x ∈ st.prog, InsOk x ∧ (shapes[x.op.toNat]!.head? = some 103 → x.a = 0)
  marks : ∀ m ∈ st.marks, 0 ≤ m.at_ ∧ m.at_ ≤ st.prog.length
  goals : ∀ g ∈ st.goals, ∃ x, st.prog[g.at_.toNat]? = some x ∧ shapes[x.op.toNat]!.head? = some 103
theorem RdI.take {n : Int} {s : Bs} {st st' : Sht} (h : RdI st) (e : takeS n s st = some st') : RdI st' := by
  cases hs : said s with
  | none => rw [take_none hs] at e; cases e
  | some y => cases y with
    | mark m =>
      have := take_mark hs e; subst this
      refine ⟨h.len, h.prog, fun m' hm => ?_, h.goals⟩
      rcases List.mem_append.1 hm with hm | hm
      · exact h.marks m' hm
      · simp at hm; subst hm; simp
    | ins x g =>
      have hl : st.prog.length < 48 := by
        unfold takeS at e; rw [hs] at e
        simp only at e
        split at e
        · cases e
        · omega
      have := take_ins hs e; subst this
      obtain ⟨q1, q2, q3⟩ := said_ok hs
      refine ⟨by simp; omega, fun y hy => ?_, fun m hm => by have := h.marks m hm; simp; omega, fun y hy => ?_⟩
      · rcases List.mem_append.1 hy with hy | hy
        · exact h.prog y hy
        · simp at hy; subst hy; exact ⟨q1, q2⟩
      · have old : y ∈ st.goals → ∃ z, (st.prog ++ [x])[y.at_.toNat]? = some z ∧ shapes[z.op.toNat]!.head? = some 103 := fun hy => by
          obtain ⟨z, z1, z2⟩ := h.goals y hy
          exact ⟨z, by rw [List.getElem?_append_left (List.getElem?_eq_some_iff.1 z1).1]; exact z1, z2⟩
        simp only at hy ⊢
        split at hy
        · exact old hy
        · rename_i hg
          rcases List.mem_append.1 hy with hy | hy
          · exact old hy
          · simp at hy; subst hy
            exact ⟨x, by simp, q3 hg⟩
theorem pass_rd : ∀ (ls : List Bs) (i : Nat) (st st' : Sht), passS i ls st = .inl st' → RdI st → RdI st'
  | [], i, st, st', h, hb => by rw [passS] at h; cases h; exact hb
  | [] :: ls, i, st, st', h, hb => by rw [passS_nil] at h; exact pass_rd ls (i + 1) st st' h hb
  | (c :: r) :: ls, i, st, st', h, hb => by
    have hne : (c :: r : Bs) ≠ [] := by simp
    cases e : takeS ((i : Int) + 1) (c :: r) st with
    | none => rw [passS_no hne e] at h; cases h
    | some st1 => rw [passS_yes hne e] at h; exact pass_rd ls (i + 1) st1 st' h (hb.take e)
def Pok (n : Int) (p : List Ins) : Prop := ∀ x ∈ p, InsOk x ∧ (shapes[x.op.toNat]!.head? = some 103 → 0 ≤ x.a ∧ x.a ≤ n)
theorem setA_at {p : List Ins} {i j : Nat} {a : Int} : (setA p i a)[j]? = if i = j then p[j]?.map (fun y => { y with a := a }) else p[j]? := by
  unfold setA
  rw [List.getElem?_modify]
  cases p[j]? <;> split <;> simp
theorem link_rd {n : Int} (hn : 0 ≤ n ∧ n ≤ 48) {ms : List Pl} (hm : ∀ m ∈ ms, 0 ≤ m.at_ ∧ m.at_ ≤ n) : ∀ (gs : List Pl) (p p' : List Ins), linkS gs ms p = .inl p' → Pok n p → (∀ g ∈ gs, ∃ x, p[g.at_.toNat]? = some x ∧ shapes[x.op.toNat]!.head? = some 103) → Pok n p' ∧ p'.length = p.length
  | [], p, p', h, hp, _ => by rw [linkS] at h; cases h; exact ⟨hp, rfl⟩
  | g :: gs, p, p', h, hp, hg => by
    rw [linkS] at h
    cases hf : ms.find? fun m => decide (m.name = g.name) with
    | none => rw [hf] at h; cases h
    | some m =>
      rw [hf] at h
      simp only at h
      have hmm := hm m (List.mem_of_find?_eq_some hf)
      have := link_rd hn hm gs (setA p g.at_.toNat m.at_) p' h (fun x hx => ?_) (fun g' hg' => ?_)
      · exact ⟨this.1, by rw [this.2, setA_len]⟩
      · obtain ⟨j, hj⟩ := List.mem_iff_getElem?.1 hx
        rw [setA_at] at hj
        split at hj
        · rename_i hij
          obtain ⟨y, hy, rfl⟩ := Option.map_eq_some_iff.1 hj
          obtain ⟨z, z1, z2⟩ := hg g List.mem_cons_self
          rw [hij, hy] at z1; cases z1
          obtain ⟨⟨q1, q2, q3⟩, _⟩ := hp y (List.mem_of_getElem? hy)
          refine ⟨⟨q1, ⟨q2.op, by unfold Int64; simp only; omega, q2.b, q2.c⟩, fun i v hv hl => ?_⟩, fun _ => hmm⟩
          have hl1 : 1 ≤ shapes[y.op.toNat]!.length := by
            cases hsh : shapes[y.op.toNat]! with
            | nil => rw [hsh] at z2; cases z2
            | cons c r => simp
          match i, hv with
          | 0, hv => exact absurd hl (by simp only; omega)
          | 1, hv => exact q3 1 v hv hl
          | 2, hv => exact q3 2 v hv hl
        · exact hp x (List.mem_of_getElem? hj)
      · obtain ⟨z, z1, z2⟩ := hg g' (List.mem_cons_of_mem _ hg')
        rw [setA_at]
        split
        · exact ⟨{ z with a := m.at_ }, by rw [z1]; rfl, z2⟩
        · exact ⟨z, z1, z2⟩
/-- WHAT WAS READ CAN BE WRITTEN. -/
theorem read_ok {t : Bs} {p : List Ins} {ms : List Pl} (h : readS t = .inl (p, ms)) : p.length ≤ 48 ∧ (∀ x ∈ p, toldS x p.length) ∧ ∀ x ∈ p, x.ok := by
  unfold readS at h
  split at h
  · cases h
  · split at h
    · cases h
    · rename_i st hst
      split at h
      · cases h
      · rename_i q hq
        cases h
        have hr := pass_rd _ _ _ _ hst ⟨by simp, by simp, by simp, by simp⟩
        have hlen := hr.len
        obtain ⟨h1, h2⟩ := link_rd (n := st.prog.length) ⟨by omega, by omega⟩ hr.marks st.goals st.prog p hq (fun x hx => ⟨(hr.prog x hx).1, fun hh => by rw [(hr.prog x hx).2 hh]; omega⟩) hr.goals
        refine ⟨by omega, fun x hx => ?_, fun x hx => (h1 x hx).1.ok⟩
        obtain ⟨q1, q2⟩ := h1 x hx
        rw [h2]
        exact ⟨q1.op.1, q1.op.2, q1.z, q2⟩
section
variable {H : Heap} {Q : HV → Heap → Prop}
theorem LabelAgain_wp {cl : List (Nat × Clo)} {rn : List (Nat × Rnd)} {D0 : DD} (hc : lkA cl n_label_lines_1 = some f_label_lines_1) (hr : lkA rn 96110293 = some r0_label_read) (hG : Gl H)
    {t : Bs} (htl : t.length ≤ 9223372036854775807) (h : ∀ H', Q (.bool true) H') : wp (f_law26_LabelAgain (stepD cl rn (stepD cl rn D0)) [.str (S t)]) Q H := by
  unfold f_law26_LabelAgain
  refine step (wp_bnd (alive_wp hc hr hG fun H1 k1 => step ?_))
  refine wp_bnd (Read_out hc hr (hG.kp k1) htl fun p ms n e H2 sp ho k2 hp => step ?_)
  refine wp_bnd (RRead_out htl fun p' ms' n' e' H3 sp' sm ho' k3 hp' hm => step ⟨fun c => ?_, fun c => ?_⟩)
  · obtain ⟨rfl, rfl, rfl, rfl⟩ := ho.inj ho'
    have hlen := hp.lenI
    refine wp_jnV [.bool true] ?_ (step (h _))
    refine step ⟨fun _ => ?_, fun hh => absurd hh c⟩
    have : p' = [] := (ho.e1 c).2
    subst this
    rw [hlen]; rfl
  · obtain ⟨rfl, rfl, rfl, rfl⟩ := ho.inj ho'
    subst c
    obtain ⟨hrd, rfl⟩ := ho.e0
    obtain ⟨q1, q2, q3⟩ := read_ok hrd
    have K3 := (k1.trans k2).trans k3
    have hw0 : ∀ {t e}, WOut (goalN [112]) p' t e → e = 0 := fun hw => by
      rcases hw with ⟨_, h⟩ | ⟨h, _, _⟩
      · exact h
      · unfold writeS at h
        rw [if_neg (by omega), if_pos q2] at h; cases h
    refine wp_bnd (Write_out (hG.kp K3) (hp.keeps k3.k) q3 fun s f H4 hw k4 => step ?_)
    have := hw0 hw
    subst this
    obtain ⟨⟨ms2, hrd2⟩, hsl⟩ := hw.read ltr_p q3
    have K4 := K3.trans k4
    refine wp_bnd (Read_out hc hr (hG.kp K4) hsl fun q ms3 n3 g H5 sq ho3 k5 hq => step ?_)
    obtain ⟨rfl, _, rfl, rfl⟩ := Out.inj (.inl ⟨hrd2, rfl, rfl⟩) ho3
    have K5 := K4.trans k5
    refine wp_bnd (Write_out (hG.kp K5) hq q3 fun s' f' H6 hw' k6 => step ?_)
    obtain ⟨rfl, rfl⟩ := hw.inj hw'
    refine wp_jnV [.bool true] ?_ (step (h _))
    refine step ⟨fun _ => ⟨fun _ => ⟨fun _ => ⟨fun _ => ?_, fun hh => absurd rfl hh⟩, fun hh => absurd rfl hh⟩, fun hh => absurd rfl hh⟩, fun hh => absurd rfl hh⟩
    have kk := ((k3.trans k4).trans k5).trans k6
    refine wp_bnd (same_wp (hp.keeps kk.k) (hq.keeps k6.k) fun b hb => ?_)
    have : b = true := hb.2 rfl
    subst this
    refine step ?_
    simp
end
end Go.Proofs.YtmfmcegpoiinjaaDoor.HM
