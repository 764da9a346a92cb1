/- THE LAW TrimIdle, by its text. Conditions: none (lemmas). -/
import Derived.Test.YtolchnaegifckaaHMEj
namespace Go.Proofs.Ytolchnaegifckaa.HM
open Go

theorem trim_Idle_wp {D : DD} {H : Heap} {Q : HV → Heap → Prop} {s : Sl} (h : Q (.func n_trim_Idle_1 [] [.ptr (some (H.n, 0))]) (H.push (.cells [.sl s] false))) : wp (f_trim_Idle D [.sl s]) Q H := by
  unfold f_trim_Idle
  exact wp_finF (wp_uL (wp_nl (wp_nw (wp_rF h))))
/-- how many of the first are idle. -/
def idleN (bs : List Bool) (i : Nat) : Nat := (bs.take i).count true
theorem idleN_zero (bs : List Bool) : idleN bs 0 = 0 := by simp [idleN]
theorem idleN_succ {bs : List Bool} {i : Nat} (hi : i < bs.length) : idleN bs (i + 1) = idleN bs i + (if bs[i] then 1 else 0) := by
  unfold idleN
  rw [List.take_succ_eq_append_getElem hi, List.count_append]
  cases bs[i] <;> simp
theorem idleN_le (bs : List Bool) (i : Nat) : idleN bs i ≤ i := by
  unfold idleN
  exact Nat.le_trans List.count_le_length (by rw [List.length_take]; omega)

theorem law29_TrimIdle_wp {cl : List (Nat × Clo)} {rn : List (Nat × Rnd)} {D0 : DD} (h1 : lkA cl n_trim_Idle_1 = some f_trim_Idle_1) (h2 : lkA rn 98604607 = some r1_law29_TrimIdle) {H : Heap} {s : Sl} {p : List Ins} (hs : RProg H s p) (hf : ∀ x ∈ p, IFit x) (a k : Int) :
    wp (f_law29_TrimIdle (stepD cl rn (stepD cl rn D0)) [.sl s, I a, I k]) Yes H := by
  unfold f_law29_TrimIdle
  have hlen := hs.lenI
  have hsp : ∀ b o, s.p = some (b, o) → b < H.n := by
    intro b o e
    have hs' : SlR H s 4 (p.map Ins.cs) := hs
    rcases hs'.mem with ⟨q1, _⟩ | ⟨b2, o2, _, _, q1, q2, _⟩
    · rw [q1] at e; cases e
    · rw [q1] at e; cases e; exact q2
  repeat' (first | with_reducible refine wp_finF ?_ | with_reducible refine wp_uA ?_ | with_reducible refine wp_uI ?_ | with_reducible refine wp_uB ?_ | with_reducible refine wp_uL ?_ | with_reducible refine wp_uS ?_ | with_reducible refine wp_uP ?_ | with_reducible refine wp_uc ?_ | with_reducible refine wp_nl ?_ | with_reducible refine wp_asB ?_ | with_reducible refine wp_asI ?_ | with_reducible refine wp_asSl ?_ | with_reducible refine wp_asT ?_ | with_reducible refine wp_asA ?_ | with_reducible refine wp_asS ?_ | with_reducible refine wp_asP ?_ | with_reducible refine wp_nN ?_ | with_reducible refine wp_rN ?_ | with_reducible refine wp_xN ?_ | with_reducible refine wp_nB ?_ | with_reducible refine wp_rB ?_ | with_reducible refine wp_xB rfl ?_ | with_reducible refine wp_xB' rfl ?_ | with_reducible refine wp_bB ?_ | with_reducible refine wp_rX ?_ | with_reducible refine wp_xX ?_ | with_reducible refine wp_rE ?_ | with_reducible refine wp_xE ?_ | with_reducible refine wp_rR ?_ | with_reducible refine wp_xR ?_ | with_reducible refine wp_r0 ?_ | with_reducible refine wp_x0 ?_ | with_reducible refine wp_rF ?_ | with_reducible refine wp_rF0 ?_ | with_reducible refine wp_rF2 ?_ | with_reducible refine wp_rF3 ?_ | with_reducible refine wp_rF4 ?_ | with_reducible refine wp_condT ?_ | with_reducible refine wp_condF ?_ | with_reducible refine wp_condNT ?_ | with_reducible refine wp_condNF ?_)
  refine wp_nw (wp_nw (wp_nw ?_))
  have c3 : Cel (((H.push (.cells [.sl s] false)).push (.cells [I k] false)).push (.cells [.bool false] false)) H.n (.sl s) := (Cel.new.keeps (Keeps.push _ _)).keeps (Keeps.push _ _)
  have c5 : Cel (((H.push (.cells [.sl s] false)).push (.cells [I k] false)).push (.cells [.bool false] false)) (H.n + 1) (I k) := Cel.new.keeps (Keeps.push _ _)
  have c6 : Cel (((H.push (.cells [.sl s] false)).push (.cells [I k] false)).push (.cells [.bool false] false)) (H.n + 2) (.bool false) := Cel.new
  have hk0 : Keeps H (((H.push (.cells [.sl s] false)).push (.cells [I k] false)).push (.cells [.bool false] false)) := ((Keeps.push _ _).trans (Keeps.push _ _)).trans (Keeps.push _ _)
  have e5 : (H.push (.cells [.sl s] false)).n = H.n + 1 := rfl
  have e6 : ((H.push (.cells [.sl s] false)).push (.cells [I k] false)).n = H.n + 2 := rfl
  rw [e6, e5]
  clear e5 e6
  generalize ((H.push (.cells [.sl s] false)).push (.cells [I k] false)).push (.cells [.bool false] false) = H1 at c3 c5 c6 hk0
  refine wp_bnd (law29_alive_wp fun H2 hk2 => wp_asB (wp_condNT ?_))
  replace c3 := c3.keeps hk2
  replace c5 := c5.keeps hk2
  replace c6 := c6.keeps hk2
  have hs2 := hs.keeps (hk0.trans hk2)
  refine wp_ldcel c3 (wp_asSl (wp_bnd (ref27_Can_wp hs2 fun z hz => wp_asB ?_)))
  refine wp_condN (fun c => ?_) (fun c => ?_)
  · have hc : ¬ CanB p := fun hh => by rw [hz.2 hh] at c; cases c
    refine wp_ldcel c3 (wp_asSl (wp_bnd (trim_Idle_wp (wp_blk ?_))))
    have d3 := c3.keeps (Keeps.push H2 (.cells [.sl s] false))
    have d6 := c6.keeps (Keeps.push H2 (.cells [.sl s] false))
    have dI : Cel (H2.push (.cells [.sl s] false)) H2.n (.sl s) := Cel.new
    have hs3 := hs2.keeps (Keeps.push H2 (.cells [.sl s] false))
    generalize hb1 : H2.n = b1 at dI
    generalize H2.push (.cells [.sl s] false) = H3 at d3 d6 dI hs3
    refine wp_ny (wp_nwL ?_)
    generalize hvs : [((6 : Nat), HV.ptr (some (H.n + 2, 0)))] = ws
    have hkL := Keeps.push H3 (.loop 81328721 ws .ready none)
    have hL : Lop (H3.push (.loop 81328721 ws .ready none)) H3.n 81328721 ws .ready none := Lop.new
    have hs4 := hs3.keeps hkL
    replace d3 := d3.keeps hkL
    have d6l := d6.lt
    replace d6 := d6.keeps hkL
    replace dI := dI.keeps hkL
    have hll : H.n + 2 < H3.n := d6l
    generalize H3.n = l at hL hll
    generalize H3.push (.loop 81328721 ws .ready none) = H4 at hL hs4 d3 d6 dI
    refine wp_bnd (wp_clo h1 ?_)
    refine wp.mono (trim_Idle_1_wp (Mo := fun _ => False) (J := fun _ H' => Keeps H4 H') (X := fun _ => False) dI.get hs4 hf (.inr ⟨hc, rfl⟩) (fun b hb => hb.elim) (fun H' hk => hk) (fun j _ hj => by simp at hj) (fun j _ hj => by simp at hj)) ?_
    rintro _ H5 ⟨_, hk5 | hk5⟩
    · have hL5 := hL.keeps hk5
      refine wp_endL0 hL5.get (by intro hh; cases hh) (wp_ret ?_)
      show wp _ _ _
      have hne3 : H.n ≠ l := by omega
      have hne6 : H.n + 2 ≠ l := by omega
      have hsN : RProg (H5.set l (.loop 81328721 ws .exhausted none)) s p := (hs4.keeps hk5).but ((But.refl (fun b => b = l) H5).set (b := l) rfl _) (fun b o e hh => by have := hsp b o e; omega)
      have d3' := (d3.keeps hk5).ne (b' := l) (o := .loop 81328721 ws .exhausted none) hne3
      have d6' := (d6.keeps hk5).ne (b' := l) (o := .loop 81328721 ws .exhausted none) hne6
      refine wp_nl (wp_ldcel d3' (wp_asSl (wp_bnd (trim_Moved_wp hsN hf (fun hh => absurd hh hc) (fun _ H6 hk6 => wp_asI ?_)))))
      refine wp_stcel (d6'.keeps hk6) rfl (wp_ldcel (Cel.self (d6'.keeps hk6).lt) (wp_asB (wp_rF ?_)))
      rfl
    · exact hk5.elim
  · have hc : CanB p := hz.1 c
    have h48 := hc.len
    refine wp_nw (wp_nw ?_)
    have hk3 := (Keeps.push H2 (.cells [I 0] false)).trans (Keeps.push (H2.push (.cells [I 0] false)) (.cells [I 0] false))
    have c7 : Cel ((H2.push (.cells [I 0] false)).push (.cells [I 0] false)) H2.n (I 0) := Cel.new.keeps (Keeps.push _ _)
    have c8 : Cel ((H2.push (.cells [I 0] false)).push (.cells [I 0] false)) (H2.n + 1) (I 0) := Cel.new
    have c6l := c6.lt
    replace c3 := c3.keeps hk3
    replace c5 := c5.keeps hk3
    replace c6 := c6.keeps hk3
    have hs3 := hs2.keeps hk3
    rw [show (H2.push (.cells [I 0] false)).n = H2.n + 1 from rfl]
    generalize (H2.push (.cells [I 0] false)).push (.cells [I 0] false) = H3 at c3 c5 c6 c7 c8 hs3
    generalize H2.n = b7 at c7 c8 c6l
    refine wp_stcel c7 rfl ?_
    have hw7 := (But.refl (fun b => b = b7) H3).set (b := b7) rfl (.cells [I 0] false)
    replace hs3 := hs3.but hw7 (fun b o e hh => by have := hsp b o e; omega)
    replace c3 := c3.ne (b' := b7) (o := .cells [I 0] false) (by omega)
    replace c5 := c5.ne (b' := b7) (o := .cells [I 0] false) (by omega)
    replace c6 := c6.ne (b' := b7) (o := .cells [I 0] false) (by omega)
    replace c8 := c8.ne (b' := b7) (o := .cells [I 0] false) (by omega)
    replace c7 : Cel (H3.set b7 (.cells [I 0] false)) b7 (I 0) := Cel.self c7.lt
    clear hw7
    generalize H3.set b7 (.cells [I 0] false) = H4 at c3 c5 c6 c7 c8 hs3
    refine wp_stcel c8 rfl ?_
    have hw8 := (But.refl (fun b => b = b7 + 1) H4).set (b := b7 + 1) rfl (.cells [I (-1)] false)
    replace hs3 := hs3.but hw8 (fun b o e hh => by have := hsp b o e; omega)
    have ht : TI (H4.set (b7 + 1) (.cells [I (-1)] false)) H.n (H.n + 1) (H.n + 2) b7 (b7 + 1) s k false 0 (-1) := ⟨c3.ne (by omega), c5.ne (by omega), c6.ne (by omega), c7.ne (by omega), Cel.self c8.lt⟩
    clear hw8 c3 c5 c6 c7 c8
    generalize H4.set (b7 + 1) (.cells [I (-1)] false) = H5 at ht hs3
    refine wp_ldcel ht.c3 (wp_asSl (wp_bnd (trim_Idle_wp (wp_blk ?_))))
    have dI : Cel (H5.push (.cells [.sl s] false)) H5.n (.sl s) := Cel.new
    replace ht := ht.keeps (Keeps.push H5 (.cells [.sl s] false))
    replace hs3 := hs3.keeps (Keeps.push H5 (.cells [.sl s] false))
    generalize hb1 : H5.n = b1 at dI
    generalize H5.push (.cells [.sl s] false) = H6 at ht dI hs3
    refine wp_ny (wp_nwL ?_)
    generalize hvs : [((3 : Nat), HV.ptr (some (H.n, 0))), (5, .ptr (some (H.n + 1, 0))), (6, .ptr (some (H.n + 2, 0))), (7, .ptr (some (b7, 0))), (8, .ptr (some (b7 + 1, 0)))] = ws
    have hkL := Keeps.push H6 (.loop 98604607 ws .ready none)
    have hL : Lop (H6.push (.loop 98604607 ws .ready none)) H6.n 98604607 ws .ready none := Lop.new
    have hll : b7 + 1 < H6.n := ht.c8.lt
    replace hs3 := hs3.keeps hkL
    replace ht := ht.keeps hkL
    replace dI := dI.keeps hkL
    generalize H6.n = l at hL hll
    generalize H6.push (.loop 98604607 ws .ready none) = H7 at hL hs3 ht dI
    have hMs : ∀ b o, s.p = some (b, o) → ¬ (b = l ∨ b = H.n + 2 ∨ b = b7 ∨ b = b7 + 1) := fun b o e hh => by have := hsp b o e; omega
    have hil := idleL_len p
    refine wp.mono (Q := fun lf H' => (lf = .norm [] ∨ lf = .exit 2 []) ∧ ∃ cc last, TI H' H.n (H.n + 1) (H.n + 2) b7 (b7 + 1) s k false cc last ∧ RProg H' s p ∧ (cc = k ∨ cc = (idleN (idleL p) p.length : Int))) ?_ ?_
    · refine wp_bnd (wp_clo h1 ?_)
      refine wp.mono (trim_Idle_1_wp (Mo := fun b => b = l ∨ b = H.n + 2 ∨ b = b7 ∨ b = b7 + 1) (bs := idleL p)
        (J := fun j H' => Lop H' l 98604607 ws .ready none ∧ ∃ last, TI H' H.n (H.n + 1) (H.n + 2) b7 (b7 + 1) s k false (idleN (idleL p) j : Int) last ∧ last < (j : Int))
        (X := fun H' => Lop H' l 98604607 ws .done (some (.exit 2)) ∧ ∃ last, TI H' H.n (H.n + 1) (H.n + 2) b7 (b7 + 1) s k false k last)
        dI.get hs3 hf (.inl ⟨hc, rfl⟩) ?_ ?_ ?_ ?_) ?_
      · intro b hb
        have := hL.lt; have := ht.c8.lt
        rcases hb with rfl | rfl | rfl | rfl <;> omega
      · intro H' hk'
        exact ⟨hL.keeps hk', -1, by rw [idleN_zero]; exact ht.keeps hk', by omega⟩
      · rintro j H' hj hbj ⟨q1, last, q2, q3⟩
        refine ⟨q1, last, ?_, by omega⟩
        rw [idleN_succ hj, hbj]; exact q2
      · rintro j H' hj hbj hbut ⟨q1, last, q2, q3⟩
        have hj' : j < p.length := by omega
        have hnl := idleN_le (idleL p) j
        have hns := idleN_succ hj
        rw [hbj] at hns
        refine wp_rnd q1.get h2 (TrimIdle_round hvs.symm ⟨by omega, by omega, by omega, by omega, by omega⟩ q1 q2 (hs3.but hbut hMs) hMs hc hj' ((idleL_get hj).1 hbj) q3 ⟨by omega, by omega⟩ fun H8 hb8 ht8 => ⟨fun e hl8 => ?_, fun e hl8 => ?_⟩)
        · exact ⟨hb8, .inr ⟨rfl, hl8, j, by rw [e] at ht8; exact ht8⟩⟩
        · refine ⟨hb8, .inl ⟨rfl, hl8, j, ?_, by omega⟩⟩
          rw [hns]; exact ht8
      · rintro _ H8 ⟨hb8, ⟨q1, last, q2, _⟩ | ⟨q1, last, q2⟩⟩
        · refine wp_endL0 q1.get (by intro hh; cases hh) (wp_ret ⟨.inl rfl, _, last, q2.set (l := l) (by omega) _, (hs3.but hb8 hMs).but ((But.refl (fun b => b = l) H8).set (b := l) rfl _) (fun b o e hh => by have := hsp b o e; omega), .inr (by rw [hil])⟩)
        · refine wp_endLx q1.get (by intro hh; cases hh) (wp_onX (wp_ret ⟨.inr rfl, _, last, q2.set (l := l) (by omega) _, (hs3.but hb8 hMs).but ((But.refl (fun b => b = l) H8).set (b := l) rfl _) (fun b o e hh => by have := hsp b o e; omega), .inl rfl⟩))
    · rintro lf H9 ⟨hlf, cc, last, t9, s9, hcc⟩
      have n9 := idleN_le (idleL p) p.length
      have hl9 := s9.lenI
      rcases hlf with rfl | rfl
      all_goals
        show wp _ _ _
        refine wp_nl (wp_ldcel t9.c3 (wp_asSl (wp_blk ?_)))
        refine wp_loop (fun m vs H' => H' = H9 ∧ ∃ i : Nat, m + i = p.length ∧ vs = [I (idleN (idleL p) i : Int), I (i : Int)]) p.length ⟨rfl, 0, by omega, by rw [idleN_zero]; rfl⟩ ?_
        rintro m vs H9 ⟨rfl, i, hmi, rfl⟩
        refine wp_uI (wp_uI (wp_nl (wp_condD (fun hi => ?_) (fun hi => ?_))))
        · have hi' : i < p.length := by omega
          have hw : wr ((i : Int) + 1) = ((i + 1 : Nat) : Int) := by rw [wr_small (by omega) (by omega)]; rfl
          have hni := idleN_le (idleL p) i
          have hiI : i < (idleL p).length := by omega
          have hns := idleN_succ hiI
          have hg := idleL_get hiI
          have hwn : wr ((idleN (idleL p) i : Int) + 1) = ((idleN (idleL p) i + 1 : Nat) : Int) := by rw [wr_small (by omega) (by omega)]; rfl
          refine wp_blk (wp_ldcel t9.c3 (wp_asSl (wp_bnd (ref29_Idle_wp s9 hc hi' fun z hz => wp_asB ?_))))
          have hzi : (idleL p)[i] = z := by rw [Bool.eq_iff_iff, hg, hz]
          rw [hzi] at hns
          refine wp_cond (fun e => wp_ret ?_) (fun e => wp_ret ?_)
          · show wp _ _ _
            refine wp_uI (wp_nl (wp_ret ⟨m - 1, by omega, rfl, i + 1, by omega, ?_⟩))
            rw [hw, hwn, hns, e]; rfl
          · show wp _ _ _
            refine wp_uI (wp_nl (wp_ret ⟨m - 1, by omega, rfl, i + 1, by omega, ?_⟩))
            rw [hw, hns, e]; rfl
        · have : i = p.length := by omega
          subst this
          refine wp_ret ?_
          show wp _ _ _
          refine wp_uI (wp_nl ?_)
          have moved : ∀ e : Int, (∀ q : Nat, a = q → q ≤ p.length → e = (keptN (idleL p) q : Int)) → (¬ (0 ≤ a ∧ a ≤ p.length) → e = -1) → wp (jn (
              ldC b7 0 fun v_12 => asI .i64 v_12 fun x71 =>
              ldC (H.n + 1) 0 fun v_13 => asI .i64 v_13 fun x72 =>
              cond (x71 == x72) (
              ldC H.n 0 fun v_14 => asSl v_14 fun x80 =>
              bnd (f_trim_Moved (stepD cl rn (stepD cl rn D0)) [.sl x80, I a]) fun r_16 =>
              asI .i64 r_16 fun x82 =>
              stC (H.n + 2) 0 (.bool (x82 == e)) (
              ret (.norm []))) (
              ldC b7 0 fun v_15 => asI .i64 v_15 fun x75 =>
              cond (x75 == (idleN (idleL p) p.length : Int)) (
              ldC H.n 0 fun v_16 => asSl v_16 fun x80_1 =>
              bnd (f_trim_Moved (stepD cl rn (stepD cl rn D0)) [.sl x80_1, I a]) fun r_17 =>
              asI .i64 r_17 fun x82_1 =>
              stC (H.n + 2) 0 (.bool (x82_1 == e)) (
              ret (.norm []))) (
              stC (H.n + 2) 0 (.bool false) (
              ret (.norm []))))) fun vs_7 =>
              nl vs_7 (
              ldC (H.n + 2) 0 fun v_17 => asB v_17 fun z0_4 =>
              ret (.ret [.bool z0_4]))) (PFin Yes) H9 := by
            intro e he1 he2
            have mv : wp (ldC H.n 0 fun v_14 => asSl v_14 fun x80 =>
              bnd (f_trim_Moved (stepD cl rn (stepD cl rn D0)) [.sl x80, I a]) fun r_16 =>
              asI .i64 r_16 fun x82 =>
              stC (H.n + 2) 0 (.bool (x82 == e)) (
              ret (.norm []))) (PNorm (PFin Yes) fun vs_7 =>
              nl vs_7 (
              ldC (H.n + 2) 0 fun v_17 => asB v_17 fun z0_4 =>
              ret (.ret [.bool z0_4]))) H9 := by
              have fin : ∀ (u : Int) H', Keeps H9 H' → u = e → wp (asI .i64 (I u) fun x82 =>
                stC (H.n + 2) 0 (.bool (x82 == e)) (
                ret (.norm []))) (PNorm (PFin Yes) fun vs_7 =>
                nl vs_7 (
                ldC (H.n + 2) 0 fun v_17 => asB v_17 fun z0_4 =>
                ret (.ret [.bool z0_4]))) H' := by
                intro u H' hk' hu
                have c6' := t9.c6.keeps hk'
                refine wp_asI (wp_stcel c6' rfl (wp_ret ?_))
                show wp _ _ _
                refine wp_nl (wp_ldcel (Cel.self c6'.lt) (wp_asB (wp_rF ?_)))
                show HV.bool (u == e) = .bool true
                rw [hu]; simp
              refine wp_ldcel t9.c3 (wp_asSl (wp_bnd (trim_Moved_wp s9 hf (fun _ q hq hql H' hk' => fin _ H' hk' (he1 q hq hql).symm) (fun hn H' hk' => fin _ H' hk' (he2 (fun hh => hn ⟨hc, hh⟩)).symm))))
            refine wp_jn (wp_ldcel t9.c7 (wp_asI (wp_ldcel t9.c5 (wp_asI (wp_condE (fun _ => mv) (fun e1 => wp_ldcel t9.c7 (wp_asI (wp_condE (fun _ => mv) (fun e2 => ?_)))))))))
            rcases hcc with h | h
            · exact absurd h e1
            · exact absurd h e2
          refine wp_jnP (0 ≤ a ∧ a ≤ p.length) ?_ (fun hh => ?_) (fun hh => ?_)
          · refine wp_condD (fun e => ?_) (fun e => wp_bB ?_)
            · refine wp_ldcel t9.c3 (wp_asSl (wp_bB ?_))
              rw [decide_eq_true_eq, hl9]
              constructor
              · intro q; exact ⟨by omega, q⟩
              · intro q; exact q.2
            · constructor
              · intro q; cases q
              · intro q; omega
          · obtain ⟨q, rfl⟩ : ∃ q : Nat, a = q := ⟨a.toNat, by omega⟩
            refine wp_uB (wp_nl (wp_jn (wp_condT (wp_ldcel t9.c3 (wp_asSl (wp_bnd (ref29_Ahead_wp s9 hc (a := q) (by omega) (wp_asI (wp_ret ?_)))))))))
            show wp _ _ _
            refine wp_uI (wp_nl (moved _ (fun q' hq' _ => ?_) (fun hn => absurd hh hn)))
            have : q = q' := by omega
            rw [this]
          · refine wp_uB (wp_nl (wp_jn (wp_condF (wp_ret ?_))))
            show wp _ _ _
            refine wp_uI (wp_nl (moved _ (fun q' hq' hl' => absurd ⟨by omega, by omega⟩ hh) (fun _ => rfl)))
end Go.Proofs.Ytolchnaegifckaa.HM
