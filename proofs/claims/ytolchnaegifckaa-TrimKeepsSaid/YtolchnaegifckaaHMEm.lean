/- THE LAW TrimKeeps: its text answers true. Conditions: none but the law's own. -/
import Derived.Test.YtolchnaegifckaaHMEk
import Derived.Test.YtolchnaegifckaaHMEl
namespace Go.Proofs.Ytolchnaegifckaa.HM
open Go

theorem law29_same_wp {D : HV → List HV → M HV} {H : Heap} {Q : HV → Heap → Prop} {s t : Sl} {p : List Ins} (hs : RProg H s p) (ht : RProg H t p) (h : Q (.bool true) H) : wp (f_law29_same D [.sl s, .sl t]) Q H := by
  unfold f_law29_same
  have l1 := hs.lenI
  have l2 := ht.lenI
  have hlt := hs.lt
  repeat' (first | with_reducible refine wp_finF ?_ | with_reducible refine wp_uA ?_ | with_reducible refine wp_uI ?_ | with_reducible refine wp_uB ?_ | with_reducible refine wp_uL ?_ | with_reducible refine wp_uS ?_ | with_reducible refine wp_uP ?_ | with_reducible refine wp_uc ?_ | with_reducible refine wp_nl ?_ | with_reducible refine wp_asB ?_ | with_reducible refine wp_asI ?_ | with_reducible refine wp_asSl ?_ | with_reducible refine wp_asT ?_ | with_reducible refine wp_asA ?_ | with_reducible refine wp_asS ?_ | with_reducible refine wp_asP ?_ | with_reducible refine wp_nN ?_ | with_reducible refine wp_rN ?_ | with_reducible refine wp_xN ?_ | with_reducible refine wp_nB ?_ | with_reducible refine wp_rB ?_ | with_reducible refine wp_xB rfl ?_ | with_reducible refine wp_xB' rfl ?_ | with_reducible refine wp_bB ?_ | with_reducible refine wp_rX ?_ | with_reducible refine wp_xX ?_ | with_reducible refine wp_rE ?_ | with_reducible refine wp_xE ?_ | with_reducible refine wp_rR ?_ | with_reducible refine wp_xR ?_ | with_reducible refine wp_r0 ?_ | with_reducible refine wp_x0 ?_ | with_reducible refine wp_rF ?_ | with_reducible refine wp_rF0 ?_ | with_reducible refine wp_rF2 ?_ | with_reducible refine wp_rF3 ?_ | with_reducible refine wp_rF4 ?_ | with_reducible refine wp_condT ?_ | with_reducible refine wp_condF ?_ | with_reducible refine wp_condNT ?_ | with_reducible refine wp_condNF ?_)
  refine wp_condNE (fun c => absurd (l1.trans l2.symm) c) (fun _ => ?_)
  refine wp_loop0 p.length hs.lt hs.lenI (fun _ => rfl) rfl (fun _ => True) trivial ?_ ?_
  · intro i hi _
    refine wp_at hs hi fun _ _ => ?_
    show wp (uI .i64 [I (p[i]).op, I (p[i]).a, I (p[i]).b, I (p[i]).c] _) _ _
    refine wp_uI (wp_uI (wp_uI (wp_uI (wp_nl ?_))))
    refine wp_at ht hi fun _ _ => ?_
    show wp (uI .i64 [I (p[i]).op, I (p[i]).a, I (p[i]).b, I (p[i]).c] _) _ _
    refine wp_uI (wp_uI (wp_uI (wp_uI (wp_nl ?_))))
    refine wp_cond (fun c => ?_) (fun _ => wp_n0 trivial)
    simp at c
  · intro _
    exact wp_rF h
/-- nothing is idle: an iterator over idle places goes over none. -/
theorem trim_Idle_none {cl : List (Nat × Clo)} {rn : List (Nat × Rnd)} {D0 : DD} (h1 : lkA cl n_trim_Idle_1 = some f_trim_Idle_1) {H : Heap} {Q : HV → Heap → Prop} {l b : Nat} {s : Sl} {p : List Ins} (hb : H.get b = .cells [.sl s] false) (hs : RProg H s p) (hf : ∀ x ∈ p, IFit x)
    (hc : CanB p) (hn : ∀ i, i < p.length → ¬ idleP p i) (h : ∀ v H', Keeps H H' → Q v H') : wp (stepD cl rn D0 (.func n_trim_Idle_1 [] [.ptr (some (b, 0))]) [.yld l]) Q H := by
  refine wp_clo h1 ?_
  have hbs : ∀ j (hj : j < (idleL p).length), (idleL p)[j] = true → False := fun j hj e => hn j (by rw [idleL_len] at hj; exact hj) ((idleL_get hj).1 e)
  refine wp.mono (trim_Idle_1_wp (Mo := fun _ => False) (J := fun _ H' => Keeps H H') (X := fun _ => False) hb hs hf (.inl ⟨hc, rfl⟩) (fun b hb => hb.elim) (fun H' hk => hk) (fun j _ hj _ hk => hk) (fun j _ hj e => (hbs j hj e).elim)) ?_
  rintro v H5 ⟨_, hk5 | hk5⟩
  · exact h _ _ hk5
  · exact hk5.elim
theorem law29_TrimKeeps_wp {cl : List (Nat × Clo)} {rn : List (Nat × Rnd)} {D0 : DD} (h1 : lkA cl n_trim_Idle_1 = some f_trim_Idle_1) {H : Heap} {s : Sl} {p : List Ins} (hs : RProg H s p) (hf : ∀ x ∈ p, IFit x) :
    wp (f_law29_TrimKeeps (stepD cl rn D0) [.sl s]) Yes H := by
  unfold f_law29_TrimKeeps
  have hlen := hs.lenI
  repeat' (first | with_reducible refine wp_finF ?_ | with_reducible refine wp_uA ?_ | with_reducible refine wp_uI ?_ | with_reducible refine wp_uB ?_ | with_reducible refine wp_uL ?_ | with_reducible refine wp_uS ?_ | with_reducible refine wp_uP ?_ | with_reducible refine wp_uc ?_ | with_reducible refine wp_nl ?_ | with_reducible refine wp_asB ?_ | with_reducible refine wp_asI ?_ | with_reducible refine wp_asSl ?_ | with_reducible refine wp_asT ?_ | with_reducible refine wp_asA ?_ | with_reducible refine wp_asS ?_ | with_reducible refine wp_asP ?_ | with_reducible refine wp_nN ?_ | with_reducible refine wp_rN ?_ | with_reducible refine wp_xN ?_ | with_reducible refine wp_nB ?_ | with_reducible refine wp_rB ?_ | with_reducible refine wp_xB rfl ?_ | with_reducible refine wp_xB' rfl ?_ | with_reducible refine wp_bB ?_ | with_reducible refine wp_rX ?_ | with_reducible refine wp_xX ?_ | with_reducible refine wp_rE ?_ | with_reducible refine wp_xE ?_ | with_reducible refine wp_rR ?_ | with_reducible refine wp_xR ?_ | with_reducible refine wp_r0 ?_ | with_reducible refine wp_x0 ?_ | with_reducible refine wp_rF ?_ | with_reducible refine wp_rF0 ?_ | with_reducible refine wp_rF2 ?_ | with_reducible refine wp_rF3 ?_ | with_reducible refine wp_rF4 ?_ | with_reducible refine wp_condT ?_ | with_reducible refine wp_condF ?_ | with_reducible refine wp_condNT ?_ | with_reducible refine wp_condNF ?_)
  refine wp_nw ?_
  have c2 : Cel (H.push (.cells [.bool false] false)) H.n (.bool false) := Cel.new
  have hk0 := Keeps.push H (.cells [.bool false] false)
  generalize H.push (.cells [.bool false] false) = H1 at c2 hk0
  refine wp_bnd (law29_alive_wp fun H2 hk2 => wp_asB (wp_condNT ?_))
  replace c2 := c2.keeps hk2
  have hs2 := hs.keeps (hk0.trans hk2)
  refine wp_bnd (ref27_Can_wp hs2 fun z hz => wp_asB ?_)
  refine wp_condN (fun c => ?_) (fun c => ?_)
  · refine wp_stcel c2 rfl (wp_ldcel (Cel.self c2.lt) (wp_asB (wp_rF ?_)))
    rfl
  have hc : CanB p := hz.1 c
  refine wp_bnd (trim_Trim_wp canF_chain hs2 ⟨hc, hf⟩ fun s3 q H3 hq hF hk3 hr3 => ?_)
  obtain ⟨_, hq1, hq2⟩ := hq.stays ⟨hc, hf⟩
  have lq := hr3.lenI
  repeat' (first | with_reducible refine wp_finF ?_ | with_reducible refine wp_uA ?_ | with_reducible refine wp_uI ?_ | with_reducible refine wp_uB ?_ | with_reducible refine wp_uL ?_ | with_reducible refine wp_uS ?_ | with_reducible refine wp_uP ?_ | with_reducible refine wp_uc ?_ | with_reducible refine wp_nl ?_ | with_reducible refine wp_asB ?_ | with_reducible refine wp_asI ?_ | with_reducible refine wp_asSl ?_ | with_reducible refine wp_asT ?_ | with_reducible refine wp_asA ?_ | with_reducible refine wp_asS ?_ | with_reducible refine wp_asP ?_ | with_reducible refine wp_nN ?_ | with_reducible refine wp_rN ?_ | with_reducible refine wp_xN ?_ | with_reducible refine wp_nB ?_ | with_reducible refine wp_rB ?_ | with_reducible refine wp_xB rfl ?_ | with_reducible refine wp_xB' rfl ?_ | with_reducible refine wp_bB ?_ | with_reducible refine wp_rX ?_ | with_reducible refine wp_xX ?_ | with_reducible refine wp_rE ?_ | with_reducible refine wp_xE ?_ | with_reducible refine wp_rR ?_ | with_reducible refine wp_xR ?_ | with_reducible refine wp_r0 ?_ | with_reducible refine wp_x0 ?_ | with_reducible refine wp_rF ?_ | with_reducible refine wp_rF0 ?_ | with_reducible refine wp_rF2 ?_ | with_reducible refine wp_rF3 ?_ | with_reducible refine wp_rF4 ?_ | with_reducible refine wp_condT ?_ | with_reducible refine wp_condF ?_ | with_reducible refine wp_condNT ?_ | with_reducible refine wp_condNF ?_)
  refine wp_bnd (code_Check_wp hr3 hF.2 (fun hn => absurd hF.1.len (by omega)) (fun _ H4 hk4 => ?_) (fun _ hn => absurd (canC_iff.2 hF.1) hn))
  repeat' (first | with_reducible refine wp_finF ?_ | with_reducible refine wp_uA ?_ | with_reducible refine wp_uI ?_ | with_reducible refine wp_uB ?_ | with_reducible refine wp_uL ?_ | with_reducible refine wp_uS ?_ | with_reducible refine wp_uP ?_ | with_reducible refine wp_uc ?_ | with_reducible refine wp_nl ?_ | with_reducible refine wp_asB ?_ | with_reducible refine wp_asI ?_ | with_reducible refine wp_asSl ?_ | with_reducible refine wp_asT ?_ | with_reducible refine wp_asA ?_ | with_reducible refine wp_asS ?_ | with_reducible refine wp_asP ?_ | with_reducible refine wp_nN ?_ | with_reducible refine wp_rN ?_ | with_reducible refine wp_xN ?_ | with_reducible refine wp_nB ?_ | with_reducible refine wp_rB ?_ | with_reducible refine wp_xB rfl ?_ | with_reducible refine wp_xB' rfl ?_ | with_reducible refine wp_bB ?_ | with_reducible refine wp_rX ?_ | with_reducible refine wp_xX ?_ | with_reducible refine wp_rE ?_ | with_reducible refine wp_xE ?_ | with_reducible refine wp_rR ?_ | with_reducible refine wp_xR ?_ | with_reducible refine wp_r0 ?_ | with_reducible refine wp_x0 ?_ | with_reducible refine wp_rF ?_ | with_reducible refine wp_rF0 ?_ | with_reducible refine wp_rF2 ?_ | with_reducible refine wp_rF3 ?_ | with_reducible refine wp_rF4 ?_ | with_reducible refine wp_condT ?_ | with_reducible refine wp_condF ?_ | with_reducible refine wp_condNT ?_ | with_reducible refine wp_condNF ?_)
  have hr4 := hr3.keeps hk4
  have c4 := (c2.keeps hk3).keeps hk4
  refine wp_jnP False ?_ (fun hh => hh.elim) (fun _ => ?_)
  · refine wp_condNE (fun c => absurd rfl c) (fun _ => wp_condNE (fun c => absurd rfl c) (fun _ => ?_))
    refine wp_bnd (ref27_Can_wp hr4 fun z hz => wp_asB ?_)
    have : z = true := hz.2 hF.1
    subst this
    refine wp_condNT (wp_bB ⟨fun hh => ?_, fun hh => hh.elim⟩)
    have := of_decide_eq_true hh
    omega
  repeat' (first | with_reducible refine wp_finF ?_ | with_reducible refine wp_uA ?_ | with_reducible refine wp_uI ?_ | with_reducible refine wp_uB ?_ | with_reducible refine wp_uL ?_ | with_reducible refine wp_uS ?_ | with_reducible refine wp_uP ?_ | with_reducible refine wp_uc ?_ | with_reducible refine wp_nl ?_ | with_reducible refine wp_asB ?_ | with_reducible refine wp_asI ?_ | with_reducible refine wp_asSl ?_ | with_reducible refine wp_asT ?_ | with_reducible refine wp_asA ?_ | with_reducible refine wp_asS ?_ | with_reducible refine wp_asP ?_ | with_reducible refine wp_nN ?_ | with_reducible refine wp_rN ?_ | with_reducible refine wp_xN ?_ | with_reducible refine wp_nB ?_ | with_reducible refine wp_rB ?_ | with_reducible refine wp_xB rfl ?_ | with_reducible refine wp_xB' rfl ?_ | with_reducible refine wp_bB ?_ | with_reducible refine wp_rX ?_ | with_reducible refine wp_xX ?_ | with_reducible refine wp_rE ?_ | with_reducible refine wp_xE ?_ | with_reducible refine wp_rR ?_ | with_reducible refine wp_xR ?_ | with_reducible refine wp_r0 ?_ | with_reducible refine wp_x0 ?_ | with_reducible refine wp_rF ?_ | with_reducible refine wp_rF0 ?_ | with_reducible refine wp_rF2 ?_ | with_reducible refine wp_rF3 ?_ | with_reducible refine wp_rF4 ?_ | with_reducible refine wp_condT ?_ | with_reducible refine wp_condF ?_ | with_reducible refine wp_condNT ?_ | with_reducible refine wp_condNF ?_)
  refine wp_bnd (trim_Idle_wp (wp_blk ?_))
  have hk5 := Keeps.push H4 (.cells [.sl s3] false)
  have dI : Cel (H4.push (.cells [.sl s3] false)) H4.n (.sl s3) := Cel.new
  have hr5 := hr4.keeps hk5
  have c5 := c4.keeps hk5
  generalize hb1 : H4.n = b1 at dI
  generalize H4.push (.cells [.sl s3] false) = H5 at dI hk5 hr5 c5
  refine wp_ny (wp_nwL ?_)
  generalize hvs : [((2 : Nat), HV.ptr (some (H.n, 0)))] = ws
  have hkL := Keeps.push H5 (.loop 93818678 ws .ready none)
  have hL : Lop (H5.push (.loop 93818678 ws .ready none)) H5.n 93818678 ws .ready none := Lop.new
  have hr6 := hr5.keeps hkL
  have c5l := c5.lt
  replace c5 := c5.keeps hkL
  replace dI := dI.keeps hkL
  have hs3l : ∀ b o, s3.p = some (b, o) → b < H5.n := by
    intro b o e
    have hs' : SlR H5 s3 4 (q.map Ins.cs) := hr5
    rcases hs'.mem with ⟨q1, _⟩ | ⟨b2, o2, _, _, q1, q2, _⟩
    · rw [q1] at e; cases e
    · rw [q1] at e; cases e; exact q2
  generalize H5.n = l at hL c5l hs3l
  generalize H5.push (.loop 93818678 ws .ready none) = H6 at hL hr6 c5 dI
  refine wp_bnd (trim_Idle_none h1 dI.get hr6 hF.2 hF.1 (fun i hi => none_idle (by rw [hq1]) hi) fun v H7 hk7 => ?_)
  have hL7 := hL.keeps hk7
  refine wp_endL0 hL7.get (by intro hh; cases hh) (wp_ret ?_)
  show wp _ _ _
  have hr8 : RProg (H7.set l (.loop 93818678 ws .exhausted none)) s3 q := (hr6.keeps hk7).but ((But.refl (fun b => b = l) H7).set (b := l) rfl _) (fun b o e hh => by have := hs3l b o e; omega)
  have c8 := (c5.keeps hk7).ne (b' := l) (o := .loop 93818678 ws .exhausted none) (by omega)
  generalize H7.set l (.loop 93818678 ws .exhausted none) = H8 at hr8 c8
  refine wp_nl (wp_bnd (trim_Trim_wp canF_chain hr8 hF fun s9 r H9 hr hrF hk9 hr9 => ?_))
  have : r = q := hr.self hq1
  subst this
  repeat' (first | with_reducible refine wp_finF ?_ | with_reducible refine wp_uA ?_ | with_reducible refine wp_uI ?_ | with_reducible refine wp_uB ?_ | with_reducible refine wp_uL ?_ | with_reducible refine wp_uS ?_ | with_reducible refine wp_uP ?_ | with_reducible refine wp_uc ?_ | with_reducible refine wp_nl ?_ | with_reducible refine wp_asB ?_ | with_reducible refine wp_asI ?_ | with_reducible refine wp_asSl ?_ | with_reducible refine wp_asT ?_ | with_reducible refine wp_asA ?_ | with_reducible refine wp_asS ?_ | with_reducible refine wp_asP ?_ | with_reducible refine wp_nN ?_ | with_reducible refine wp_rN ?_ | with_reducible refine wp_xN ?_ | with_reducible refine wp_nB ?_ | with_reducible refine wp_rB ?_ | with_reducible refine wp_xB rfl ?_ | with_reducible refine wp_xB' rfl ?_ | with_reducible refine wp_bB ?_ | with_reducible refine wp_rX ?_ | with_reducible refine wp_xX ?_ | with_reducible refine wp_rE ?_ | with_reducible refine wp_xE ?_ | with_reducible refine wp_rR ?_ | with_reducible refine wp_xR ?_ | with_reducible refine wp_r0 ?_ | with_reducible refine wp_x0 ?_ | with_reducible refine wp_rF ?_ | with_reducible refine wp_rF0 ?_ | with_reducible refine wp_rF2 ?_ | with_reducible refine wp_rF3 ?_ | with_reducible refine wp_rF4 ?_ | with_reducible refine wp_condT ?_ | with_reducible refine wp_condF ?_ | with_reducible refine wp_condNT ?_ | with_reducible refine wp_condNF ?_)
  have c9 := c8.keeps hk9
  refine wp_jn ?_
  refine wp_condE (fun _ => ?_) (fun c => absurd rfl c)
  refine wp_bnd (law29_same_wp (hr8.keeps hk9) hr9 (wp_asB (wp_stcel c9 rfl (wp_ret ?_))))
  show wp _ _ _
  refine wp_nl (wp_ldcel (Cel.self c9.lt) (wp_asB (wp_rF ?_)))
  rfl
end Go.Proofs.Ytolchnaegifckaa.HM
