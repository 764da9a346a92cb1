/- THE LAW TrimIdle, by its text. Conditions: none (lemmas). -/
import Derived.Test.YtolchnaegifckaaHNEj
namespace Go.Proofs.Ytolchnaegifckaa.HN
open Go

theorem trim_Idle_wp {D : DD} {H : Heap} {Q : HV → Heap → Prop} {s : Sl} (h : Q (.func n_trim_Idle_1 [] [.ptr (some (H.n, 0))]) (H.push (.cells [.sl s] false))) : wp (f_trim_Idle D [.sl s]) Q H := by
  unfold f_trim_Idle
  exact wp_finF (wp_uL (wp_nl (wp_nw (wp_rF h))))
/-- how many of the first are idle. -/
def idleN (bs : List Bool) (i : Nat) : Nat := (bs.take i).count true
theorem idleN_zero (bs : List Bool) : idleN bs 0 = 0 := by simp [idleN]
theorem idleN_succ {bs : List Bool} {i : Nat} (hi : i < bs.length) : idleN bs (i + 1) = idleN bs i + (if bs[i] then 1 else 0) := by
  unfold idleN
  rw [List.take_succ_eq_append_getElem hi, List.count_append]
  cases bs[i] <;> simp
theorem idleN_le (bs : List Bool) (i : Nat) : idleN bs i ≤ i := by
  unfold idleN
  exact Nat.le_trans List.count_le_length (by rw [List.length_take]; omega)

theorem law29_TrimIdle_wp {cl : List (Nat × Clo)} {rn : List (Nat × Rnd)} {D0 : DD} (h1 : lkA cl n_trim_Idle_1 = some f_trim_Idle_1) (h2 : lkA rn 98604607 = some r1_law29_TrimIdle) {H : Heap} {s : Sl} {p : List Ins} (hs : RProg H s p) (hf : ∀ x ∈ p, IFit x) (a k : Int) :
    wp (f_law29_TrimIdle (stepD cl rn (stepD cl rn D0)) [.sl s, I a, I k]) Yes H := by
  unfold f_law29_TrimIdle
  have hlen := hs.lenI
  have hsp : ∀ b o, s.p = some (b, o) → b < H.n := by
    intro b o e
    have hs' : SlR H s 4 (p.map Ins.cs) := hs
    rcases hs'.mem with ⟨q1, _⟩ | ⟨b2, o2, _, _, q1, q2, _⟩
    · rw [q1] at e; cases e
    · rw [q1] at e; cases e; exact q2
  repeat' (first | with_reducible refine wp_finF ?_ | with_reducible refine wp_uA ?_ | with_reducible refine wp_uI ?_ | with_reducible refine wp_uB ?_ | with_reducible refine wp_uL ?_ | with_reducible refine wp_uS ?_ | with_reducible refine wp_uP ?_ | with_reducible refine wp_uc ?_ | with_reducible refine wp_nl ?_ | with_reducible refine wp_asB ?_ | with_reducible refine wp_asI ?_ | with_reducible refine wp_asSl ?_ | with_reducible refine wp_asT ?_ | with_reducible refine wp_asA ?_ | with_reducible refine wp_asS ?_ | with_reducible refine wp_asP ?_ | with_reducible refine wp_nN ?_ | with_reducible refine wp_rN ?_ | with_reducible refine wp_xN ?_ | with_reducible refine wp_nB ?_ | with_reducible refine wp_rB ?_ | with_reducible refine wp_xB rfl ?_ | with_reducible refine wp_xB' rfl ?_ | with_reducible refine wp_bB ?_ | with_reducible refine wp_rX ?_ | with_reducible refine wp_xX ?_ | with_reducible refine wp_rE ?_ | with_reducible refine wp_xE ?_ | with_reducible refine wp_rR ?_ | with_reducible refine wp_xR ?_ | with_reducible refine wp_r0 ?_ | with_reducible refine wp_x0 ?_ | with_reducible refine wp_rF ?_ | with_reducible refine wp_rF0 ?_ | with_reducible refine wp_rF2 ?_ | with_reducible refine wp_rF3 ?_ | with_reducible refine wp_rF4 ?_ | with_reducible refine wp_condT ?_ | with_reducible refine wp_condF ?_ | with_reducible refine wp_condNT ?_ | with_reducible refine wp_condNF ?_)
  refine wp_nw (wp_nw (wp_nw ?_))
  have c3 : Cel (((H.push (.cells [.sl s] false)).push (.cells [I k] false)).push (.cells [.bool false] false)) H.n (.sl s) := (Cel.new.keeps (Keeps.push _ _)).keeps (Keeps.push _ _)
  have c5 : Cel (((H.push (.cells [.sl s] false)).push (.cells [I k] false)).push (.cells [.bool false] false)) (H.n + 1) (I k) := Cel.new.keeps (Keeps.push _ _)
  have c6 : Cel (((H.push (.cells [.sl s] false)).push (.cells [I k] false)).push (.cells [.bool false] false)) (H.n + 2) (.bool false) := Cel.new
  have hk0 : Keeps H (((H.push (.cells [.sl s] false)).push (.cells [I k] false)).push (.cells [.bool false] false)) := ((Keeps.push _ _).trans (Keeps.push _ _)).trans (Keeps.push _ _)
  have e5 : (H.push (.cells [.sl s] false)).n = H.n + 1 := rfl
  have e6 : ((H.push (.cells [.sl s] false)).push (.cells [I k] false)).n = H.n + 2 := rfl
  rw [e6, e5]
  clear e5 e6
  generalize ((H.push (.cells [.sl s] false)).push (.cells [I k] false)).push (.cells [.bool false] false) = H1 at c3 c5 c6 hk0
  refine wp_bnd (law29_alive_wp fun H2 hk2 => wp_asB (wp_condNT ?_))
  replace c3 := c3.keeps hk2
  replace c5 := c5.keeps hk2
  replace c6 := c6.keeps hk2
  have hs2 := hs.keeps (hk0.trans hk2)
  refine wp_ldcel c3 (wp_asSl (wp_bnd (ref27_Can_wp hs2 fun z hz => wp_asB ?_)))
  refine wp_condN (fun c => ?_) (fun c => ?_)
  · have hc : ¬ CanB p := fun hh => by rw [hz.2 hh] at c; cases c
    refine wp_ldcel c3 (wp_asSl (wp_bnd (trim_Idle_wp (wp_blk ?_))))
    have d3 := c3.keeps (Keeps.push H2 (.cells [.sl s] false))
    have d6 := c6.keeps (Keeps.push H2 (.cells [.sl s] false))
    have dI : Cel (H2.push (.cells [.sl s] false)) H2.n (.sl s) := Cel.new
    have hs3 := hs2.keeps (Keeps.push H2 (.cells [.sl s] false))
    generalize hb1 : H2.n = b1 at dI
    generalize H2.push (.cells [.sl s] false) = H3 at d3 d6 dI hs3
    refine wp_ny (wp_nwL ?_)
    generalize hvs : [((6 : Nat), HV.ptr (some (H.n + 2, 0)))] = ws
    have hkL := Keeps.push H3 (.loop 81328721 ws .ready none)
    have hL : Lop (H3.push (.loop 81328721 ws .ready none)) H3.n 81328721 ws .ready none := Lop.new
    have hs4 := hs3.keeps hkL
    replace d3 := d3.keeps hkL
    have d6l := d6.lt
    replace d6 := d6.keeps hkL
    replace dI := dI.keeps hkL
    have hll : H.n + 2 < H3.n := d6l
    generalize H3.n = l at hL hll
    generalize H3.push (.loop 81328721 ws .ready none) = H4 at hL hs4 d3 d6 dI
    refine wp_bnd (wp_clo h1 ?_)
    refine wp.mono (trim_Idle_1_wp (Mo := fun _ => False) (J := fun _ H' => Keeps H4 H') (X := fun _ => False) dI.get hs4 hf (.inr ⟨hc, rfl⟩) (fun b hb => hb.elim) (fun H' hk => hk) (fun j _ hj => by simp at hj) (fun j _ hj => by simp at hj)) ?_
    rintro _ H5 ⟨_, hk5 | hk5⟩
    · have hL5 := hL.keeps hk5
      refine wp_endL0 hL5.get (by intro hh; cases hh) (wp_ret ?_)
      show wp _ _ _
      have hne3 : H.n ≠ l := by omega
      have hne6 : H.n + 2 ≠ l := by omega
      have hsN : RProg (H5.set l (.loop 81328721 ws .exhausted none)) s p := (hs4.keeps hk5).but ((But.refl (fun b => b = l) H5).set (b := l) rfl _) (fun b o e hh => by have := hsp b o e; omega)
      have d3' := (d3.keeps hk5).ne (b' := l) (o := .loop 81328721 ws .exhausted none) hne3
      have d6' := (d6.keeps hk5).ne (b' := l) (o := .loop 81328721 ws .exhausted none) hne6
      refine wp_nl (wp_ldcel d3' (wp_asSl (wp_bnd (trim_Moved_wp hsN hf (fun hh => absurd hh hc) (fun _ H6 hk6 => wp_asI ?_)))))
      refine wp_stcel (d6'.keeps hk6) rfl (wp_ldcel (Cel.self (d6'.keeps hk6).lt) (wp_asB (wp_rF ?_)))
      rfl
    · exact hk5.elim
  · have hc : CanB p := hz.1 c
    have h48 := hc.len
    refine wp_nw (wp_nw ?_)
    have hk3 := (Keeps.push H2 (.cells [I 0] false)).trans (Keeps.push (H2.push (.cells [I 0] false)) (.cells [I 0] false))
    have c7 : Cel ((H2.push (.cells [I 0] false)).push (.cells [I 0] false)) H2.n (I 0) := Cel.new.keeps (Keeps.push _ _)
    have c8 : Cel ((H2.push (.cells [I 0] false)).push (.cells [I 0] false)) (H2.n + 1) (I 0) := Cel.new
    have c6l := c6.lt
    replace c3 := c3.keeps hk3
    replace c5 := c5.keeps hk3
    replace c6 := c6.keeps hk3
    have hs3 := hs2.keeps hk3
    rw [show (H2.push (.cells [I 0] false)).n = H2.n + 1 from rfl]
    generalize (H2.push (.cells [I 0] false)).push (.cells [I 0] false) = H3 at c3 c5 c6 c7 c8 hs3
    generalize H2.n = b7 at c7 c8 c6l
    refine wp_stcel c7 rfl ?_
    have hw7 := (But.refl (fun b => b = b7) H3).set (b := b7) rfl (.cells [I 0] false)
    replace hs3 := hs3.but hw7 (fun b o e hh => by have := hsp b o e; omega)
    replace c3 := c3.ne (b' := b7) (o := .cells [I 0] false) (by omega)
    replace c5 := c5.ne (b' := b7) (o := .cells [I 0] false) (by omega)
    replace c6 := c6.ne (b' := b7) (o := .cells [I 0] false) (by omega)
    replace c8 := c8.ne (b' := b7) (o := .cells [I 0] false) (by omega)
    replace c7 : Cel (H3.set b7 (.cells [I 0] false)) b7 (I 0) := Cel.self c7.lt
    clear hw7
    generalize H3.set b7 (.cells [I 0] false) = H4 at c3 c5 c6 c7 c8 hs3
    refine wp_stcel c8 rfl ?_
    have hw8 := (But.refl (fun b => b = b7 + 1) H4).set (b := b7 + 1) rfl (.cells [I (-1)] false)
    replace hs3 := hs3.but hw8 (fun b o e hh => by have := hsp b o e; omega)
    have ht : TI (H4.set (b7 + 1) (.cells [I (-1)] false)) H.n (H.n + 1) (H.n + 2) b7 (b7 + 1) s k false 0 (-1) := ⟨c3.ne (by omega), c5.ne (by omega), c6.ne (by omega), c7.ne (by omega), Cel.self c8.lt⟩
    clear hw8 c3 c5 c6 c7 c8
    generalize H4.set (b7 + 1) (.cells [I (-1)] false) = H5 at ht hs3
    refine wp_ldcel ht.c3 (wp_asSl (wp_bnd (trim_Idle_wp (wp_blk ?_))))
    have dI : Cel (H5.push (.cells [.sl s] false)) H5.n (.sl s) := Cel.new
    replace ht := ht.keeps (Keeps.push H5 (.cells [.sl s] false))
    replace hs3 := hs3.keeps (Keeps.push H5 (.cells [.sl s] false))
    generalize hb1 : H5.n = b1 at dI
    generalize H5.push (.cells [.sl s] false) = H6 at ht dI hs3
    refine wp_ny (wp_nwL ?_)
    generalize hvs : [((3 : Nat), HV.ptr (some (H.n, 0))), (5, .ptr (some (H.n + 1, 0))), (6, .ptr (some (H.n + 2, 0))), (7, .ptr (some (b7, 0))), (8, .ptr (some (b7 + 1, 0)))] = ws
    have hkL := Keeps.push H6 (.loop 98604607 ws .ready none)
    have hL : Lop (H6.push (.loop 98604607 ws .ready none)) H6.n 98604607 ws .ready none := Lop.new
    have hll : b7 + 1 < H6.n := ht.c8.lt
    replace hs3 := hs3.keeps hkL
    replace ht := ht.keeps hkL
    replace dI := dI.keeps hkL
    generalize H6.n = l at hL hll
    generalize H6.push (.loop 98604607 ws .ready none) = H7 at hL hs3 ht dI
    have hMs : ∀ b o, s.p = some (b, o) → ¬ (b = l ∨ b = H.n + 2 ∨ b = b7 ∨ b = b7 + 1) := fun b o e hh => by have := hsp b o e; omega
    have hil := idleL_len p
    refine wp.mono (Q := fun lf H' => (lf = .norm [] ∨ lf = .exit 2 []) ∧ ∃ cc last, TI H' H.n (H.n + 1) (H.n + 2) b7 (b7 + 1) s k false cc last ∧ RProg H' s p ∧ (cc = k ∨ cc = (idleN (idleL p) p.length : Int))) ?_ ?_
    · refine wp_bnd (wp_clo h1 ?_)
      refine wp.mono (trim_Idle_1_wp (Mo := fun b => b = l ∨ b = H.n + 2 ∨ b = b7 ∨ b = b7 + 1) (bs := idleL p)
        (J := fun j H' => Lop H' l 98604607 ws .ready none ∧ ∃ last, TI H' H.n (H.n + 1) (H.n + 2) b7 (b7 + 1) s k false (idleN (idleL p) j : Int) last ∧ last < (j : Int))
        (X := fun H' => Lop H' l 98604607 ws .done (some (.exit 2)) ∧ ∃ last, TI H' H.n (H.n + 1) (H.n + 2) b7 (b7 + 1) s k false k last)
        dI.get hs3 hf (.inl ⟨hc, rfl⟩) ?_ ?_ ?_ ?_) ?_
      · intro b hb
        have := hL.lt; have := ht.c8.lt
        rcases hb with rfl | rfl | rfl | rfl <;> omega
      · intro H' hk'
        exact ⟨hL.keeps hk', -1, by rw [idleN_zero]; exact ht.keeps hk', by omega⟩
      · rintro j H' hj hbj ⟨q1, last, q2, q3⟩
        refine ⟨q1, last, ?_, by omega⟩
        rw [idleN_succ hj, hbj]; exact q2
      · rintro j H' hj hbj hbut ⟨q1, last, q2, q3⟩
        have hj' : j < p.length := by omega
        have hnl := idleN_le (idleL p) j
        have hns := idleN_succ hj
        rw [hbj] at hns
        refine wp_rnd q1.get h2 (TrimIdle_round hvs.symm ⟨by omega, by omega, by omega, by omega, by omega⟩ q1 q2 (hs3.but hbut hMs) hMs hc hj' ((idleL_get hj).1 hbj) q3 ⟨by omega, by omega⟩ fun H8 hb8 ht8 => ⟨fun e hl8 => ?_, fun e hl8 => ?_⟩)
        · exact ⟨hb8, .inr ⟨rfl, hl8, j, by rw [e] at ht8; exact ht8⟩⟩
        · refine ⟨hb8, .inl ⟨rfl, hl8, j, ?_, by omega⟩⟩
          rw [hns]; exact ht8
      · rintro _ H8 ⟨hb8, ⟨q1, last, q2, _⟩ | ⟨q1, last, q2⟩⟩
        · refine wp_endL0 q1.get (by intro hh; cases hh) (wp_ret ⟨.inl rfl, _, last, q2.set (l := l) (by omega) _, (hs3.but hb8 hMs).but ((But.refl (fun b => b = l) H8).set (b := l) rfl _) (fun b o e hh => by have := hsp b o e; omega), .inr (by rw [hil])⟩)
        · refine wp_endLx q1.get (by intro hh; cases hh) (wp_onX (wp_ret ⟨.inr rfl, _, last, q2.set (l := l) (by omega) _, (hs3.but hb8 hMs).but ((But.refl (fun b => b = l) H8).set (b := l) rfl _) (fun b o e hh => by have := hsp b o e; omega), .inl rfl⟩))
    · rintro lf H9 ⟨hlf, cc, last, t9, s9, hcc⟩
      have n9 := idleN_le (idleL p) p.length
      have hl9 := s9.lenI
      rcases hlf with rfl | rfl
      all_goals
        show wp _ _ _
        refine wp_nl (wp_ldcel t9.c3 (wp_asSl (wp_blk ?_)))
        refine wp_loop (fun m vs H' => H' = H9 ∧ ∃ i : Nat, m + i = p.length ∧ vs = [I (idleN (idleL p) i : Int), I (i : Int)]) p.length ⟨rfl, 0, by omega, by rw [idleN_zero]; rfl⟩ ?_
        rintro m vs H9 ⟨rfl, i, hmi, rfl⟩
        refine wp_uI (wp_uI (wp_nl (wp_condD (fun hi => ?_) (fun hi => ?_))))
        · have hi' : i < p.length := by omega
          have hw : wr ((i : Int) + 1) = ((i + 1 : Nat) : Int) := by rw [wr_small (by omega) (by omega)]; rfl
          have hni := idleN_le (idleL p) i
          have hiI : i < (idleL p).length := by omega
          have hns := idleN_succ hiI
          have hg := idleL_get hiI
          have hwn : wr ((idleN (idleL p) i : Int) + 1) = ((idleN (idleL p) i + 1 : Nat) : Int) := by rw [wr_small (by omega) (by omega)]; rfl
          refine wp_blk (wp_ldcel t9.c3 (wp_asSl (wp_bnd (ref29_Idle_wp s9 hc hi' fun z hz => wp_asB ?_))))
          have hzi : (idleL p)[i] = z := by rw [Bool.eq_iff_iff, hg, hz]
          rw [hzi] at hns
          refine wp_cond (fun e => wp_ret ?_) (fun e => wp_ret ?_)
          · show wp _ _ _
            refine wp_uI (wp_nl (wp_ret ⟨m - 1, by omega, rfl, i + 1, by omega, ?_⟩))
            rw [hw, hwn, hns, e]; rfl
          · show wp _ _ _
            refine wp_uI (wp_nl (wp_ret ⟨m - 1, by omega, rfl, i + 1, by omega, ?_⟩))
            rw [hw, hns, e]; rfl
        · have : i = p.length := by omega
          subst this
          refine wp_ret ?_
          show wp _ _ _
          refine wp_uI (wp_nl ?_)
          have moved : ∀ e : Int, (∀ q : Nat, a = q → q ≤ p.length → e = (keptN (idleL p) q : Int)) → (¬ (0 ≤ a ∧ a ≤ p.length) → e = -1) → wp (jn (
              ldC b7 0 fun v_12 => asI .i64 v_12 fun x71 =>
              ldC (H.n + 1) 0 fun v_13 => asI .i64 v_13 fun x72 =>
              cond (x71 == x72) (
              ldC H.n 0 fun v_14 => asSl v_14 fun x80 =>
              bnd (f_trim_Moved (stepD cl rn (stepD cl rn D0)) [.sl x80, I a]) fun r_16 =>
              asI .i64 r_16 fun x82 =>
              stC (H.n + 2) 0 (.bool (x82 == e)) (
              ret (.norm []))) (
              ldC b7 0 fun v_15 => asI .i64 v_15 fun x75 =>
              cond (x75 == (idleN (idleL p) p.length : Int)) (
              ldC H.n 0 fun v_16 => asSl v_16 fun x80_1 =>
              bnd (f_trim_Moved (stepD cl rn (stepD cl rn D0)) [.sl x80_1, I a]) fun r_17 =>
              asI .i64 r_17 fun x82_1 =>
              stC (H.n + 2) 0 (.bool (x82_1 == e)) (
              ret (.norm []))) (
              stC (H.n + 2) 0 (.bool false) (
              ret (.norm []))))) fun vs_7 =>
              nl vs_7 (
              ldC (H.n + 2) 0 fun v_17 => asB v_17 fun z0_4 =>
              ret (.ret [.bool z0_4]))) (PFin Yes) H9 := by
            intro e he1 he2
            have mv : wp (ldC H.n 0 fun v_14 => asSl v_14 fun x80 =>
              bnd (f_trim_Moved (stepD cl rn (stepD cl rn D0)) [.sl x80, I a]) fun r_16 =>
              asI .i64 r_16 fun x82 =>
              stC (H.n + 2) 0 (.bool (x82 == e)) (
              ret (.norm []))) (PNorm (PFin Yes) fun vs_7 =>
              nl vs_7 (
              ldC (H.n + 2) 0 fun v_17 => asB v_17 fun z0_4 =>
              ret (.ret [.bool z0_4]))) H9 := by
              have fin : ∀ (u : Int) H', Keeps H9 H' → u = e → wp (asI .i64 (I u) fun x82 =>
                stC (H.n + 2) 0 (.bool (x82 == e)) (
                ret (.norm []))) (PNorm (PFin Yes) fun vs_7 =>
                nl vs_7 (
                ldC (H.n + 2) 0 fun v_17 => asB v_17 fun z0_4 =>
                ret (.ret [.bool z0_4]))) H' := by
                intro u H' hk' hu
                have c6' := t9.c6.keeps hk'
                refine wp_asI (wp_stcel c6' rfl (wp_ret ?_))
                show wp _ _ _
                refine wp_nl (wp_ldcel (Cel.self c6'.lt) (wp_asB (wp_rF ?_)))
                show HV.bool (u == e) = .bool true
                rw [hu]; simp
              refine wp_ldcel t9.c3 (wp_asSl (wp_bnd (trim_Moved_wp s9 hf (fun _ q hq hql H' hk' => fin _ H' hk' (he1 q hq hql).symm) (fun hn H' hk' => fin _ H' hk' (he2 (fun hh => hn ⟨hc, hh⟩)).symm))))
            refine wp_jn (wp_ldcel t9.c7 (wp_asI (wp_ldcel t9.c5 (wp_asI (wp_condE (fun _ => mv) (fun e1 => wp_ldcel t9.c7 (wp_asI (wp_condE (fun _ => mv) (fun e2 => ?_)))))))))
            rcases hcc with h | h
            · exact absurd h e1
            · exact absurd h e2
          refine wp_jnP (0 ≤ a ∧ a ≤ p.length) ?_ (fun hh => ?_) (fun hh => ?_)
          · refine wp_condD (fun e => ?_) (fun e => wp_bB ?_)
            · refine wp_ldcel t9.c3 (wp_asSl (wp_bB ?_))
              rw [decide_eq_true_eq, hl9]
              constructor
              · intro q; exact ⟨by omega, q⟩
              · intro q; exact q.2
            · constructor
              · intro q; cases q
              · intro q; omega
          · obtain ⟨q, rfl⟩ : ∃ q : Nat, a = q := ⟨a.toNat, by omega⟩
            refine wp_uB (wp_nl (wp_jn (wp_condT (wp_ldcel t9.c3 (wp_asSl (wp_bnd (ref29_Ahead_wp s9 hc (a := q) (by omega) (wp_asI (wp_ret ?_)))))))))
            show wp _ _ _
            refine wp_uI (wp_nl (moved _ (fun q' hq' _ => ?_) (fun hn => absurd hh hn)))
            have : q = q' := by omega
            rw [this]
          · refine wp_uB (wp_nl (wp_jn (wp_condF (wp_ret ?_))))
            show wp _ _ _
            refine wp_uI (wp_nl (moved _ (fun q' hq' hl' => absurd ⟨by omega, by omega⟩ hh) (fun _ => rfl)))
end Go.Proofs.Ytolchnaegifckaa.HN
namespace Go.Proofs.Ytolchnaegifckaa.HN
open Go

/-- the place that a place has then. -/
noncomputable abbrev kp (p : List Ins) (i : Nat) : Nat := keptN (idleL p) i
theorem kp_le (p : List Ins) (i : Nat) : kp p i ≤ i := keptN_le _ _
theorem kp_zero (p : List Ins) : kp p 0 = 0 := keptN_zero _
theorem trimG_kp (p : List Ins) {i : Nat} (hi : i ≤ p.length) : (trimG (idleL p) p i).length = kp p i := trimG_len (idleL_len p) hi
theorem kp_idle {p : List Ins} {i : Nat} (hi : i < p.length) (h : idleP p i) : kp p (i + 1) = kp p i := by
  have hl : i < (idleL p).length := by rw [idleL_len]; exact hi
  show keptN _ _ = keptN _ _
  rw [keptN_succ hl, (idleL_get hl).2 h]; simp
theorem kp_kept {p : List Ins} {i : Nat} (hi : i < p.length) (h : ¬ idleP p i) : kp p (i + 1) = kp p i + 1 := by
  have hl : i < (idleL p).length := by rw [idleL_len]; exact hi
  show keptN _ _ = keptN _ _ + 1
  have : (idleL p)[i] = false := by
    cases hh : (idleL p)[i]
    · rfl
    · exact absurd ((idleL_get hl).1 hh) h
  rw [keptN_succ hl, this]; simp
theorem kp_step {p : List Ins} {i : Nat} (hi : i < p.length) : kp p i ≤ kp p (i + 1) := by
  by_cases h : idleP p i
  · rw [kp_idle hi h]; exact Nat.le_refl _
  · rw [kp_kept hi h]; omega
theorem kp_mono {p : List Ins} {i : Nat} : ∀ {j : Nat}, i ≤ j → j ≤ p.length → kp p i ≤ kp p j
  | 0, h, _ => by have : i = 0 := by omega
                  subst this; exact Nat.le_refl _
  | j + 1, h, hj => by
    by_cases e : i = j + 1
    · subst e; exact Nat.le_refl _
    · exact Nat.le_trans (kp_mono (by omega) (by omega)) (kp_step hj)
theorem kp_lt {p : List Ins} {i j : Nat} (hi : i < j) (hj : j ≤ p.length) (h : ¬ idleP p i) : kp p i < kp p j := by
  have h1 := kp_kept (p := p) (i := i) (by omega) h
  have h2 := kp_mono (p := p) (i := i + 1) (j := j) hi hj
  omega
theorem trim1_len (p : List Ins) : (trim1 p).length = kp p p.length := trimG_len (idleL_len p) (Nat.le_refl _)
theorem idl_getD {p : List Ins} {i : Nat} (hi : i < p.length) : (idleL p).getD i false = true ↔ idleP p i := by
  have hl : i < (idleL p).length := by rw [idleL_len]; exact hi
  rw [getD_of hl, idleL_get hl]
theorem trimG_get {p : List Ins} {i : Nat} (hi : i < p.length) (h : ¬ idleP p i) : ∀ n, i < n → n ≤ p.length → (trimG (idleL p) p n)[kp p i]? = some (movedI (idleL p) p[i])
  | 0, h1, _ => by omega
  | n + 1, h1, h2 => by
    have hn : n < p.length := h2
    have hl := trimG_kp p (i := n) (by omega)
    rw [trimG_succ hn]
    by_cases e : i = n
    · subst e
      have : (idleL p).getD i false = false := by
        cases hh : (idleL p).getD i false
        · rfl
        · exact absurd ((idl_getD hi).1 hh) h
      rw [this, List.getElem?_append_right (by omega), hl]
      simp
    · have hlt := kp_lt (p := p) (i := i) (j := n) (by omega) (by omega) h
      rw [List.getElem?_append_left (by omega)]
      exact trimG_get hi h n (by omega) (by omega)
theorem trim1_at {p : List Ins} {i : Nat} (hi : i < p.length) (h : ¬ idleP p i) : (trim1 p)[kp p i]? = some (movedI (idleL p) p[i]) := trimG_get hi h _ hi (Nat.le_refl _)
/-- each place left over was one. -/
theorem kp_inv {p : List Ins} {j : Nat} : ∀ n, n ≤ p.length → j < kp p n → ∃ i, ∃ _hi : i < p.length, i < n ∧ ¬ idleP p i ∧ kp p i = j
  | 0, _, h => by have := kp_zero p; omega
  | n + 1, hn, h => by
    have hn' : n < p.length := hn
    by_cases hid : idleP p n
    · rw [kp_idle hn' hid] at h
      obtain ⟨i, hi, h1, h2, h3⟩ := kp_inv (p := p) (j := j) n (by omega) h
      exact ⟨i, hi, by omega, h2, h3⟩
    · rw [kp_kept hn' hid] at h
      by_cases e : kp p n = j
      · exact ⟨n, hn', by omega, hid, e⟩
      · obtain ⟨i, hi, h1, h2, h3⟩ := kp_inv (p := p) (j := j) n (by omega) (by omega)
        exact ⟨i, hi, by omega, h2, h3⟩
theorem trim1_inv {p : List Ins} {j : Nat} (hj : j < (trim1 p).length) : ∃ i, ∃ hi : i < p.length, ¬ idleP p i ∧ kp p i = j ∧ (trim1 p)[j] = movedI (idleL p) p[i] := by
  rw [trim1_len] at hj
  obtain ⟨i, hi, _, h2, h3⟩ := kp_inv p.length (Nat.le_refl _) hj
  refine ⟨i, hi, h2, h3, ?_⟩
  have := trim1_at hi h2
  rw [h3] at this
  exact (List.getElem?_eq_some_iff.1 this).2

theorem movedI_op (bs : List Bool) (x : Ins) : (movedI bs x).op = x.op ∧ (movedI bs x).b = x.b ∧ (movedI bs x).c = x.c := by
  unfold movedI; split <;> exact ⟨rfl, rfl, rfl⟩
theorem idle_begin {p : List Ins} {i : Nat} (hi : i < p.length) (h4 : (p[i]).op = 4) : idleP p i ↔ ¬ Rch p 0 i := by
  rw [idleP_eq hi, if_neg (by omega)]; unfold base; simp [h4]
theorem idle_end {p : List Ins} {i : Nat} (hi : i < p.length) (h5 : (p[i]).op = 5) : idleP p i ↔ ¬ Rch p 0 (opn p i).toNat := by
  rw [idleP_eq hi, if_pos h5]
theorem kept_rch {p : List Ins} {i : Nat} (hi : i < p.length) (h5 : (p[i]).op ≠ 5) (h : ¬ idleP p i) : Rch p 0 i := by
  rw [idleP_eq hi, if_neg h5] at h
  unfold base at h
  exact Classical.byContradiction fun hh => h (.inl hh)

/-- open blocks behind trimming. -/
theorem opn_trim {p : List Ins} (hc : CanB p) : ∀ i, i ≤ p.length →
    (0 ≤ opn p i → Rch p 0 (opn p i).toNat → opn (trim1 p) (kp p i) = (kp p (opn p i).toNat : Int)) ∧
    (¬ (0 ≤ opn p i ∧ Rch p 0 (opn p i).toNat) → opn (trim1 p) (kp p i) = -1)
  | 0, _ => by
    have h0 : kp p 0 = 0 := keptN_zero _
    rw [h0]
    exact ⟨fun h => by simp [opn] at h, fun _ => rfl⟩
  | i + 1, hi => by
    have hi' : i < p.length := hi
    obtain ⟨ih1, ih2⟩ := opn_trim hc i (by omega)
    have hsh := hc.shaped.1 i hi'
    by_cases hid : idleP p i
    · rw [kp_idle hi' hid]
      by_cases h4 : (p[i]).op = 4
      · rw [opn_nxt hi', if_pos h4]
        have hn := (idle_begin hi' h4).1 hid
        exact ⟨fun _ hr => absurd (by simpa using hr) hn, fun _ => ih2 fun ⟨h, _⟩ => by have := hsh.1 h4; omega⟩
      · by_cases h5 : (p[i]).op = 5
        · rw [opn_nxt hi', if_neg h4, if_pos h5]
          have hn := (idle_end hi' h5).1 hid
          exact ⟨fun h => by omega, fun _ => ih2 fun ⟨_, h⟩ => hn h⟩
        · rw [opn_nxt hi', if_neg h4, if_neg h5]
          exact ⟨ih1, ih2⟩
    · have ha := trim1_at hi' hid
      obtain ⟨hkl, ha'⟩ := List.getElem?_eq_some_iff.1 ha
      have hop : ((trim1 p)[kp p i]).op = (p[i]).op := by rw [ha']; exact (movedI_op _ _).1
      rw [kp_kept hi' hid, opn_nxt hkl, hop, opn_nxt hi']
      by_cases h4 : (p[i]).op = 4
      · rw [if_pos h4, if_pos h4]
        have hr : Rch p 0 i := kept_rch hi' (by omega) hid
        exact ⟨fun _ _ => by simp, fun h => absurd ⟨by omega, by simpa using hr⟩ h⟩
      · rw [if_neg h4, if_neg h4]
        by_cases h5 : (p[i]).op = 5
        · rw [if_pos h5, if_pos h5]
          exact ⟨fun h => by omega, fun _ => rfl⟩
        · rw [if_neg h5, if_neg h5]
          exact ⟨ih1, ih2⟩
theorem opn_trim_neg {p : List Ins} (hc : CanB p) {i : Nat} (hi : i ≤ p.length) (h : opn p i < 0) : opn (trim1 p) (kp p i) = -1 := (opn_trim hc i hi).2 fun hh => by omega
/-- a way into a block leads through its Begin. -/
theorem rch_begin {p : List Ins} (hc : CanB p) : ∀ {i : Nat}, Rch p 0 i → i ≤ p.length → 0 ≤ opn p i → Rch p 0 (opn p i).toNat := by
  intro i h
  induction h with
  | refl => intro _ h; simp [opn] at h
  | @step j i hj hr hm ih =>
    intro hi ho
    have hcc := canC_iff.2 hc
    have hg := hcc.good j hj
    have hrg := nextL_range hc hj hm
    have hnx : (i : Int) = (j : Int) + 1 ∨ ((p[j]).op = 3 ∨ (p[j]).op = 20) ∧ (i : Int) = (p[j]).a := by
      unfold nextL at hm
      by_cases a1 : (p[j]).op = 0 ∨ (p[j]).op = 19
      · rw [if_pos a1] at hm; simp at hm
      · rw [if_neg a1] at hm
        by_cases a2 : (p[j]).op = 3 ∧ (p[j]).c = 2
        · rw [if_pos a2] at hm; simp at hm; exact .inr ⟨.inl a2.1, hm⟩
        · rw [if_neg a2] at hm
          by_cases a3 : ((p[j]).op = 3 ∨ (p[j]).op = 20) ∧ (p[j]).a > (j : Int) + 1
          · rw [if_pos a3] at hm; simp at hm
            rcases hm with hm | hm
            · exact .inl hm
            · exact .inr ⟨a3.1, hm⟩
          · rw [if_neg a3] at hm; simp at hm; exact .inl hm
    rcases hnx with e | ⟨hop, e⟩
    · have e : i = j + 1 := by omega
      subst e
      rw [opn_nxt hj] at ho ⊢
      by_cases h4 : (p[j]).op = 4
      · rw [if_pos h4]; simpa using hr
      · rw [if_neg h4] at ho ⊢
        by_cases h5 : (p[j]).op = 5
        · rw [if_pos h5] at ho; omega
        · rw [if_neg h5] at ho ⊢
          exact ih (by omega) ho
    · obtain ⟨g1, g2, g3, g4⟩ := hg.2.2.1 hop
      by_cases hlt : (p[j]).a < p.length
      · have := g4 hlt
        rw [← e] at this
        have e2 : opn p i = opn p j := by simpa using this
        rw [e2] at ho ⊢
        exact ih (by omega) ho
      · have hb := hc.shaped.2
        have : i = p.length := by omega
        subst this; omega
/-- an open block has its End further on. -/
theorem end_after {p : List Ins} (hc : CanB p) : ∀ (m i : Nat), p.length - i = m → i ≤ p.length → 0 ≤ opn p i → ∃ e, ∃ he : e < p.length, i ≤ e ∧ (p[e]).op = 5 ∧ opn p e = opn p i
  | 0, i, hm, hi, ho => by
    have : i = p.length := by omega
    subst this
    have := hc.shaped.2
    omega
  | m + 1, i, hm, hi, ho => by
    have hi' : i < p.length := by omega
    by_cases h5 : (p[i]).op = 5
    · exact ⟨i, hi', Nat.le_refl _, h5, rfl⟩
    · by_cases h4 : (p[i]).op = 4
      · have := (hc.shaped.1 i hi').1 h4
        omega
      · have e := opn_nxt hi'
        rw [if_neg h4, if_neg h5] at e
        obtain ⟨k, hk, h1, h2, h3⟩ := end_after hc m (i + 1) (by omega) (by omega) (by omega)
        exact ⟨k, hk, by omega, h2, by omega⟩
theorem kept_end {p : List Ins} {e : Nat} (he : e < p.length) (h5 : (p[e]).op = 5) (hr : Rch p 0 (opn p e).toNat) : ¬ idleP p e := fun h => (idle_end he h5).1 h hr

theorem sure_trim {p : List Ins} (hc : CanB p) : ∀ i, i ≤ p.length → 0 ≤ opn p i → Rch p 0 (opn p i).toNat → sureR (trim1 p) (kp p i) = true → sureR p i = true
  | 0, _, h, _, _ => by simp [opn] at h
  | i + 1, hi, ho, hr, hsu => by
    have hi' : i < p.length := hi
    rw [opn_nxt hi'] at ho hr
    rw [sureR_succ hi']
    by_cases h4 : (p[i]).op = 4
    · rw [if_pos h4] at hr
      have hr : Rch p 0 i := by simpa using hr
      have hid : ¬ idleP p i := fun h => (idle_begin hi' h4).1 h hr
      have ha := trim1_at hi' hid
      obtain ⟨hkl, ha'⟩ := List.getElem?_eq_some_iff.1 ha
      rw [kp_kept hi' hid, sureR_succ hkl, ha', (movedI_op _ _).1, if_pos h4] at hsu
      cases hsu
    · rw [if_neg h4] at ho hr
      rw [if_neg h4]
      by_cases h5 : (p[i]).op = 5
      · rw [if_pos h5] at ho; omega
      · rw [if_neg h5] at ho hr
        by_cases h21 : (p[i]).op = 21
        · rw [if_pos h21]
        · rw [if_neg h21]
          refine sure_trim hc i (by omega) ho hr ?_
          by_cases hid : idleP p i
          · rw [kp_idle hi' hid] at hsu; exact hsu
          · have ha := trim1_at hi' hid
            obtain ⟨hkl, ha'⟩ := List.getElem?_eq_some_iff.1 ha
            rw [kp_kept hi' hid, sureR_succ hkl, ha', (movedI_op _ _).1, if_neg h4, if_neg h21] at hsu
            exact hsu
theorem ways_trim {p : List Ins} (hc : CanB p) : ∀ i, i ≤ p.length → 0 ≤ opn p i → Rch p 0 (opn p i).toNat → waysR (trim1 p) (kp p i) ≤ waysR p i
  | 0, _, h, _ => by simp [opn] at h
  | i + 1, hi, ho, hr => by
    have hi' : i < p.length := hi
    rw [opn_nxt hi'] at ho hr
    rw [waysR_succ hi']
    by_cases h4 : (p[i]).op = 4
    · rw [if_pos h4] at hr
      have hr : Rch p 0 i := by simpa using hr
      have hid : ¬ idleP p i := fun h => (idle_begin hi' h4).1 h hr
      have ha := trim1_at hi' hid
      obtain ⟨hkl, ha'⟩ := List.getElem?_eq_some_iff.1 ha
      rw [kp_kept hi' hid, waysR_succ hkl, ha', (movedI_op _ _).1, if_pos h4]
      omega
    · rw [if_neg h4] at ho hr
      rw [if_neg h4]
      by_cases h5 : (p[i]).op = 5
      · rw [if_pos h5] at ho; omega
      · rw [if_neg h5] at ho hr
        have ih := ways_trim hc i (by omega) ho hr
        by_cases hid : idleP p i
        · rw [kp_idle hi' hid]; split <;> omega
        · have ha := trim1_at hi' hid
          obtain ⟨hkl, ha'⟩ := List.getElem?_eq_some_iff.1 ha
          rw [kp_kept hi' hid, waysR_succ hkl, ha', (movedI_op _ _).1, if_neg h4]
          split <;> omega

theorem fits_moved {bs : List Bool} {x : Ins} (hl : bs.length ≤ 1000) (h : Fits x) : Fits (movedI bs x) := by
  unfold movedI
  split
  · rename_i ho
    have hk : keptN bs x.a.toNat ≤ 1000 := Nat.le_trans (Nat.le_trans List.count_le_length (by rw [List.length_take]; exact Nat.min_le_right _ _)) hl
    obtain ⟨⟨l, h1, h2⟩, h3⟩ := h
    refine ⟨⟨l, h1, ?_⟩, fun hh => ?_⟩
    · rcases ho with ho | ho
      · have : l = [loI, hiI, 0, 3, 0, 2] := by rw [ho] at h1; simpa [lims] using h1.symm
        subst this
        simp only [inside] at h2 ⊢
        refine ⟨by unfold loI; omega, by unfold hiI; omega, h2.2.2⟩
      · have : l = [loI, hiI, 0, 0, 0, 0] := by rw [ho] at h1; simpa [lims] using h1.symm
        subst this
        simp only [inside] at h2 ⊢
        refine ⟨by unfold loI; omega, by unfold hiI; omega, h2.2.2⟩
    · have := hh.1
      simp only at this
      rcases ho with ho | ho <;> omega
  · exact h

/-- A TRIMMED PROGRAM CAN BE. -/
theorem can_trim {p : List Ins} (hc : CanB p) : CanB (trim1 p) := by
  have hcc := canC_iff.2 hc
  have h48 := hc.len
  refine canC_iff.1 ⟨Nat.le_trans (trim1_le p) h48, ⟨fun j hj => ?_, ?_⟩, fun j hj => ?_⟩
  · obtain ⟨i, hi, hid, rfl, he⟩ := trim1_inv hj
    rw [he, (movedI_op _ _).1]
    have hsh := hc.shaped.1 i hi
    refine ⟨fun h4 => ?_, fun h5 => ?_⟩
    · rw [opn_trim_neg hc (by omega) (hsh.1 h4)]; omega
    · have hr : Rch p 0 (opn p i).toNat := Classical.byContradiction fun hh => hid ((idle_end hi h5).2 hh)
      rw [(opn_trim hc i (by omega)).1 (hsh.2 h5) hr]; omega
  · rw [trim1_len, opn_trim_neg hc (Nat.le_refl _) hc.shaped.2]; omega
  · obtain ⟨i, hi, hid, rfl, he⟩ := trim1_inv hj
    rw [he]
    obtain ⟨g1, ⟨g2, g3⟩, g4, g5, g6⟩ := hcc.good i hi
    obtain ⟨m1, m2, m3⟩ := movedI_op (idleL p) p[i]
    have hlt := opn_lt p i
    -- inside a block: its Begin is reached
    have hin : 0 ≤ opn p i → Rch p 0 (opn p i).toNat := by
      intro ho
      by_cases h5 : (p[i]).op = 5
      · exact Classical.byContradiction fun hh => hid ((idle_end hi h5).2 hh)
      · exact rch_begin hc (kept_rch hi h5 hid) (by omega) ho
    refine ⟨fits_moved (by rw [idleL_len]; omega) g1, ⟨fun h => ?_, fun h => ?_⟩, fun h => ?_, ?_, ?_⟩
    · rw [m1] at h
      rw [opn_trim_neg hc (by omega) (g2 h)]; omega
    · rw [m1] at h
      have ho := g3 h
      rw [(opn_trim hc i (by omega)).1 ho (hin ho)]; omega
    · rw [m1] at h
      obtain ⟨a1, a2, a3, a4⟩ := g4 h
      have hma : (movedI (idleL p) p[i]).a = (kp p (p[i]).a.toNat : Int) := by unfold movedI; rw [if_pos h]
      rw [hma, trim1_len]
      have hl1 := kp_lt (p := p) (i := i) (j := (p[i]).a.toNat) (by omega) (by omega) hid
      have hl2 := kp_mono (p := p) (i := (p[i]).a.toNat) (j := p.length) (by omega) (Nat.le_refl _)
      by_cases ho : 0 ≤ opn p i
      · have hal : (p[i]).a < p.length := by
          apply Classical.byContradiction
          intro hh
          have := a3 (by omega)
          omega
        have e := a4 hal
        obtain ⟨z, hz, hz1, hz2, hz3⟩ := end_after hc _ (p[i]).a.toNat rfl (by omega) (by omega)
        have hr := hin ho
        have hzk : ¬ idleP p z := kept_end hz hz2 (by rw [hz3, e]; exact hr)
        have l1 := kp_mono (p := p) (i := (p[i]).a.toNat) (j := z) hz1 (by omega)
        have l2 := kp_lt (p := p) (i := z) (j := p.length) hz (Nat.le_refl _) hzk
        refine ⟨by omega, by omega, fun hh => by omega, fun _ => ?_⟩
        rw [Int.toNat_natCast, (opn_trim hc i (by omega)).1 ho hr, (opn_trim hc _ (by omega)).1 (by omega) (by rw [e]; exact hr), e]
      · have hn : opn p i < 0 := by omega
        have en := opn_trim_neg hc (by omega) hn
        refine ⟨by omega, by omega, fun _ => by omega, fun hh => ?_⟩
        rw [Int.toNat_natCast, en]
        by_cases hal : (p[i]).a < p.length
        · exact opn_trim_neg hc (by omega) (by have := a4 hal; omega)
        · have : (p[i]).a.toNat = p.length := by omega
          rw [this]
          exact opn_trim_neg hc (Nat.le_refl _) hc.shaped.2
    · rintro ⟨h, h3⟩
      rw [m1] at h
      have ho := g3 (by omega)
      have := ways_trim hc i (by omega) ho (hin ho)
      exact g5 ⟨h, by omega⟩
    · rintro ⟨h, h3⟩
      rw [m1] at h3
      have ho := g3 (by omega)
      exact g6 ⟨sure_trim hc i (by omega) ho (hin ho) h, h3⟩
theorem fit_moved {bs : List Bool} {x : Ins} (hl : bs.length ≤ 1000) (h : IFit x) : IFit (movedI bs x) := by
  unfold movedI
  split
  · have hk : keptN bs x.a.toNat ≤ 1000 := Nat.le_trans (Nat.le_trans List.count_le_length (by rw [List.length_take]; exact Nat.min_le_right _ _)) hl
    exact { h with a := ⟨by show loI ≤ _; unfold loI; simp only; omega, by show _ ≤ hiI; unfold hiI; simp only; omega⟩ }
  · exact h
theorem fit_trim {p : List Ins} (hc : CanB p) (hf : ∀ x ∈ p, IFit x) : ∀ x ∈ trim1 p, IFit x := by
  intro x hx
  obtain ⟨j, hj, rfl⟩ := List.getElem_of_mem hx
  obtain ⟨i, hi, _, _, he⟩ := trim1_inv hj
  rw [he]
  have h48 := hc.len
  exact fit_moved (by rw [idleL_len]; omega) (hf _ (List.getElem_mem hi))
/-- where nothing goes, nothing is idle. -/
theorem kp_all {p : List Ins} : ∀ n, n ≤ p.length → kp p n = n → ∀ i, i < n → ¬ idleP p i
  | 0, _, _, i, hi => by omega
  | n + 1, hn, he, i, hi => by
    have hn' : n < p.length := hn
    have hle := kp_le p n
    by_cases hid : idleP p n
    · rw [kp_idle hn' hid] at he; omega
    · rw [kp_kept hn' hid] at he
      by_cases e : i = n
      · subst e; exact hid
      · exact kp_all n (by omega) (by omega) i (by omega)
theorem none_idle {p : List Ins} (h : (trim1 p).length = p.length) {i : Nat} (hi : i < p.length) : ¬ idleP p i := kp_all p.length (Nat.le_refl _) (by rw [← trim1_len]; exact h) i hi
theorem kp_same {p : List Ins} (h : (trim1 p).length = p.length) : ∀ n, n ≤ p.length → kp p n = n
  | 0, _ => keptN_zero _
  | n + 1, hn => by rw [kp_kept hn (none_idle h hn), kp_same h n (by omega)]
theorem trim_same {p : List Ins} (hc : CanB p) (h : (trim1 p).length = p.length) : trim1 p = p := by
  refine List.ext_getElem h fun i h1 h2 => ?_
  have := trim1_at h2 (none_idle h h2)
  rw [kp_same h i (by omega)] at this
  rw [(List.getElem?_eq_some_iff.1 this).2]
  unfold movedI
  split
  · rename_i ho
    obtain ⟨f1, f2⟩ := hc.fwd i h2 ho
    have : (keptN (idleL p) (p[i]).a.toNat : Int) = (p[i]).a := by
      have := kp_same h (p[i]).a.toNat (by omega)
      have : keptN (idleL p) (p[i]).a.toNat = (p[i]).a.toNat := this
      omega
    rw [this]
  · rfl
/-- what can be, by numbers of 64 bits: all of its trimmed ones can. -/
def CanF (p : List Ins) : Prop := CanB p ∧ ∀ x ∈ p, IFit x
theorem canF_chain : Chain CanF := ⟨fun _ h => h.1, fun _ h => h.2, fun _ h => ⟨can_trim h.1, fit_trim h.1 h.2⟩⟩
/-- what is trimmed till nothing goes. -/
theorem Trims.stays {p q : List Ins} (h : Trims p q) : CanF p → CanF q ∧ trim1 q = q ∧ q.length ≤ p.length := by
  induction h with
  | @last p e =>
    intro hp
    have hs := trim_same hp.1 e
    rw [hs]
    exact ⟨hp, hs, Nat.le_refl _⟩
  | @more p q hne _ ih =>
    intro hp
    obtain ⟨h1, h2, h3⟩ := ih (canF_chain.next p hp)
    exact ⟨h1, h2, Nat.le_trans h3 (trim1_le p)⟩
theorem Trims.self {p q : List Ins} (h : trim1 p = p) (ht : Trims p q) : q = p := by
  cases ht with
  | last _ => exact h
  | more hn _ => rw [h] at hn; exact absurd rfl hn
theorem Trims.only {p q q' : List Ins} (h : Trims p q) : Trims p q' → q' = q := by
  induction h with
  | @last p e =>
    intro h2
    cases h2 with
    | last _ => rfl
    | more hn _ => exact absurd e hn
  | @more p q hne _ ih =>
    intro h2
    cases h2 with
    | last e => exact absurd e hne
    | more _ h2 => exact ih h2
theorem Trims.ex : ∀ (n : Nat) (p : List Ins), p.length ≤ n → ∃ q, Trims p q
  | 0, p, h => ⟨trim1 p, .last (by have := trim1_le p; omega)⟩
  | n + 1, p, h => by
    by_cases e : (trim1 p).length = p.length
    · exact ⟨_, .last e⟩
    · obtain ⟨q, hq⟩ := Trims.ex n (trim1 p) (by have := trim1_le p; omega)
      exact ⟨q, .more e hq⟩
end Go.Proofs.Ytolchnaegifckaa.HN
namespace Go.Proofs.Ytolchnaegifckaa.HN
open Go

theorem law29_same_wp {D : HV → List HV → M HV} {H : Heap} {Q : HV → Heap → Prop} {s t : Sl} {p : List Ins} (hs : RProg H s p) (ht : RProg H t p) (h : Q (.bool true) H) : wp (f_law29_same D [.sl s, .sl t]) Q H := by
  unfold f_law29_same
  have l1 := hs.lenI
  have l2 := ht.lenI
  have hlt := hs.lt
  repeat' (first | with_reducible refine wp_finF ?_ | with_reducible refine wp_uA ?_ | with_reducible refine wp_uI ?_ | with_reducible refine wp_uB ?_ | with_reducible refine wp_uL ?_ | with_reducible refine wp_uS ?_ | with_reducible refine wp_uP ?_ | with_reducible refine wp_uc ?_ | with_reducible refine wp_nl ?_ | with_reducible refine wp_asB ?_ | with_reducible refine wp_asI ?_ | with_reducible refine wp_asSl ?_ | with_reducible refine wp_asT ?_ | with_reducible refine wp_asA ?_ | with_reducible refine wp_asS ?_ | with_reducible refine wp_asP ?_ | with_reducible refine wp_nN ?_ | with_reducible refine wp_rN ?_ | with_reducible refine wp_xN ?_ | with_reducible refine wp_nB ?_ | with_reducible refine wp_rB ?_ | with_reducible refine wp_xB rfl ?_ | with_reducible refine wp_xB' rfl ?_ | with_reducible refine wp_bB ?_ | with_reducible refine wp_rX ?_ | with_reducible refine wp_xX ?_ | with_reducible refine wp_rE ?_ | with_reducible refine wp_xE ?_ | with_reducible refine wp_rR ?_ | with_reducible refine wp_xR ?_ | with_reducible refine wp_r0 ?_ | with_reducible refine wp_x0 ?_ | with_reducible refine wp_rF ?_ | with_reducible refine wp_rF0 ?_ | with_reducible refine wp_rF2 ?_ | with_reducible refine wp_rF3 ?_ | with_reducible refine wp_rF4 ?_ | with_reducible refine wp_condT ?_ | with_reducible refine wp_condF ?_ | with_reducible refine wp_condNT ?_ | with_reducible refine wp_condNF ?_)
  refine wp_condNE (fun c => absurd (l1.trans l2.symm) c) (fun _ => ?_)
  refine wp_loop0 p.length hs.lt hs.lenI (fun _ => rfl) rfl (fun _ => True) trivial ?_ ?_
  · intro i hi _
    refine wp_at hs hi fun _ _ => ?_
    show wp (uI .i64 [I (p[i]).op, I (p[i]).a, I (p[i]).b, I (p[i]).c] _) _ _
    refine wp_uI (wp_uI (wp_uI (wp_uI (wp_nl ?_))))
    refine wp_at ht hi fun _ _ => ?_
    show wp (uI .i64 [I (p[i]).op, I (p[i]).a, I (p[i]).b, I (p[i]).c] _) _ _
    refine wp_uI (wp_uI (wp_uI (wp_uI (wp_nl ?_))))
    refine wp_cond (fun c => ?_) (fun _ => wp_n0 trivial)
    simp at c
  · intro _
    exact wp_rF h
/-- nothing is idle: an iterator over idle places goes over none. -/
theorem trim_Idle_none {cl : List (Nat × Clo)} {rn : List (Nat × Rnd)} {D0 : DD} (h1 : lkA cl n_trim_Idle_1 = some f_trim_Idle_1) {H : Heap} {Q : HV → Heap → Prop} {l b : Nat} {s : Sl} {p : List Ins} (hb : H.get b = .cells [.sl s] false) (hs : RProg H s p) (hf : ∀ x ∈ p, IFit x)
    (hc : CanB p) (hn : ∀ i, i < p.length → ¬ idleP p i) (h : ∀ v H', Keeps H H' → Q v H') : wp (stepD cl rn D0 (.func n_trim_Idle_1 [] [.ptr (some (b, 0))]) [.yld l]) Q H := by
  refine wp_clo h1 ?_
  have hbs : ∀ j (hj : j < (idleL p).length), (idleL p)[j] = true → False := fun j hj e => hn j (by rw [idleL_len] at hj; exact hj) ((idleL_get hj).1 e)
  refine wp.mono (trim_Idle_1_wp (Mo := fun _ => False) (J := fun _ H' => Keeps H H') (X := fun _ => False) hb hs hf (.inl ⟨hc, rfl⟩) (fun b hb => hb.elim) (fun H' hk => hk) (fun j _ hj _ hk => hk) (fun j _ hj e => (hbs j hj e).elim)) ?_
  rintro v H5 ⟨_, hk5 | hk5⟩
  · exact h _ _ hk5
  · exact hk5.elim
theorem law29_TrimKeeps_wp {cl : List (Nat × Clo)} {rn : List (Nat × Rnd)} {D0 : DD} (h1 : lkA cl n_trim_Idle_1 = some f_trim_Idle_1) {H : Heap} {s : Sl} {p : List Ins} (hs : RProg H s p) (hf : ∀ x ∈ p, IFit x) :
    wp (f_law29_TrimKeeps (stepD cl rn D0) [.sl s]) Yes H := by
  unfold f_law29_TrimKeeps
  have hlen := hs.lenI
  repeat' (first | with_reducible refine wp_finF ?_ | with_reducible refine wp_uA ?_ | with_reducible refine wp_uI ?_ | with_reducible refine wp_uB ?_ | with_reducible refine wp_uL ?_ | with_reducible refine wp_uS ?_ | with_reducible refine wp_uP ?_ | with_reducible refine wp_uc ?_ | with_reducible refine wp_nl ?_ | with_reducible refine wp_asB ?_ | with_reducible refine wp_asI ?_ | with_reducible refine wp_asSl ?_ | with_reducible refine wp_asT ?_ | with_reducible refine wp_asA ?_ | with_reducible refine wp_asS ?_ | with_reducible refine wp_asP ?_ | with_reducible refine wp_nN ?_ | with_reducible refine wp_rN ?_ | with_reducible refine wp_xN ?_ | with_reducible refine wp_nB ?_ | with_reducible refine wp_rB ?_ | with_reducible refine wp_xB rfl ?_ | with_reducible refine wp_xB' rfl ?_ | with_reducible refine wp_bB ?_ | with_reducible refine wp_rX ?_ | with_reducible refine wp_xX ?_ | with_reducible refine wp_rE ?_ | with_reducible refine wp_xE ?_ | with_reducible refine wp_rR ?_ | with_reducible refine wp_xR ?_ | with_reducible refine wp_r0 ?_ | with_reducible refine wp_x0 ?_ | with_reducible refine wp_rF ?_ | with_reducible refine wp_rF0 ?_ | with_reducible refine wp_rF2 ?_ | with_reducible refine wp_rF3 ?_ | with_reducible refine wp_rF4 ?_ | with_reducible refine wp_condT ?_ | with_reducible refine wp_condF ?_ | with_reducible refine wp_condNT ?_ | with_reducible refine wp_condNF ?_)
  refine wp_nw ?_
  have c2 : Cel (H.push (.cells [.bool false] false)) H.n (.bool false) := Cel.new
  have hk0 := Keeps.push H (.cells [.bool false] false)
  generalize H.push (.cells [.bool false] false) = H1 at c2 hk0
  refine wp_bnd (law29_alive_wp fun H2 hk2 => wp_asB (wp_condNT ?_))
  replace c2 := c2.keeps hk2
  have hs2 := hs.keeps (hk0.trans hk2)
  refine wp_bnd (ref27_Can_wp hs2 fun z hz => wp_asB ?_)
  refine wp_condN (fun c => ?_) (fun c => ?_)
  · refine wp_stcel c2 rfl (wp_ldcel (Cel.self c2.lt) (wp_asB (wp_rF ?_)))
    rfl
  have hc : CanB p := hz.1 c
  refine wp_bnd (trim_Trim_wp canF_chain hs2 ⟨hc, hf⟩ fun s3 q H3 hq hF hk3 hr3 => ?_)
  obtain ⟨_, hq1, hq2⟩ := hq.stays ⟨hc, hf⟩
  have lq := hr3.lenI
  repeat' (first | with_reducible refine wp_finF ?_ | with_reducible refine wp_uA ?_ | with_reducible refine wp_uI ?_ | with_reducible refine wp_uB ?_ | with_reducible refine wp_uL ?_ | with_reducible refine wp_uS ?_ | with_reducible refine wp_uP ?_ | with_reducible refine wp_uc ?_ | with_reducible refine wp_nl ?_ | with_reducible refine wp_asB ?_ | with_reducible refine wp_asI ?_ | with_reducible refine wp_asSl ?_ | with_reducible refine wp_asT ?_ | with_reducible refine wp_asA ?_ | with_reducible refine wp_asS ?_ | with_reducible refine wp_asP ?_ | with_reducible refine wp_nN ?_ | with_reducible refine wp_rN ?_ | with_reducible refine wp_xN ?_ | with_reducible refine wp_nB ?_ | with_reducible refine wp_rB ?_ | with_reducible refine wp_xB rfl ?_ | with_reducible refine wp_xB' rfl ?_ | with_reducible refine wp_bB ?_ | with_reducible refine wp_rX ?_ | with_reducible refine wp_xX ?_ | with_reducible refine wp_rE ?_ | with_reducible refine wp_xE ?_ | with_reducible refine wp_rR ?_ | with_reducible refine wp_xR ?_ | with_reducible refine wp_r0 ?_ | with_reducible refine wp_x0 ?_ | with_reducible refine wp_rF ?_ | with_reducible refine wp_rF0 ?_ | with_reducible refine wp_rF2 ?_ | with_reducible refine wp_rF3 ?_ | with_reducible refine wp_rF4 ?_ | with_reducible refine wp_condT ?_ | with_reducible refine wp_condF ?_ | with_reducible refine wp_condNT ?_ | with_reducible refine wp_condNF ?_)
  refine wp_bnd (code_Check_wp hr3 hF.2 (fun hn => absurd hF.1.len (by omega)) (fun _ H4 hk4 => ?_) (fun _ hn => absurd (canC_iff.2 hF.1) hn))
  repeat' (first | with_reducible refine wp_finF ?_ | with_reducible refine wp_uA ?_ | with_reducible refine wp_uI ?_ | with_reducible refine wp_uB ?_ | with_reducible refine wp_uL ?_ | with_reducible refine wp_uS ?_ | with_reducible refine wp_uP ?_ | with_reducible refine wp_uc ?_ | with_reducible refine wp_nl ?_ | with_reducible refine wp_asB ?_ | with_reducible refine wp_asI ?_ | with_reducible refine wp_asSl ?_ | with_reducible refine wp_asT ?_ | with_reducible refine wp_asA ?_ | with_reducible refine wp_asS ?_ | with_reducible refine wp_asP ?_ | with_reducible refine wp_nN ?_ | with_reducible refine wp_rN ?_ | with_reducible refine wp_xN ?_ | with_reducible refine wp_nB ?_ | with_reducible refine wp_rB ?_ | with_reducible refine wp_xB rfl ?_ | with_reducible refine wp_xB' rfl ?_ | with_reducible refine wp_bB ?_ | with_reducible refine wp_rX ?_ | with_reducible refine wp_xX ?_ | with_reducible refine wp_rE ?_ | with_reducible refine wp_xE ?_ | with_reducible refine wp_rR ?_ | with_reducible refine wp_xR ?_ | with_reducible refine wp_r0 ?_ | with_reducible refine wp_x0 ?_ | with_reducible refine wp_rF ?_ | with_reducible refine wp_rF0 ?_ | with_reducible refine wp_rF2 ?_ | with_reducible refine wp_rF3 ?_ | with_reducible refine wp_rF4 ?_ | with_reducible refine wp_condT ?_ | with_reducible refine wp_condF ?_ | with_reducible refine wp_condNT ?_ | with_reducible refine wp_condNF ?_)
  have hr4 := hr3.keeps hk4
  have c4 := (c2.keeps hk3).keeps hk4
  refine wp_jnP False ?_ (fun hh => hh.elim) (fun _ => ?_)
  · refine wp_condNE (fun c => absurd rfl c) (fun _ => wp_condNE (fun c => absurd rfl c) (fun _ => ?_))
    refine wp_bnd (ref27_Can_wp hr4 fun z hz => wp_asB ?_)
    have : z = true := hz.2 hF.1
    subst this
    refine wp_condNT (wp_bB ⟨fun hh => ?_, fun hh => hh.elim⟩)
    have := of_decide_eq_true hh
    omega
  repeat' (first | with_reducible refine wp_finF ?_ | with_reducible refine wp_uA ?_ | with_reducible refine wp_uI ?_ | with_reducible refine wp_uB ?_ | with_reducible refine wp_uL ?_ | with_reducible refine wp_uS ?_ | with_reducible refine wp_uP ?_ | with_reducible refine wp_uc ?_ | with_reducible refine wp_nl ?_ | with_reducible refine wp_asB ?_ | with_reducible refine wp_asI ?_ | with_reducible refine wp_asSl ?_ | with_reducible refine wp_asT ?_ | with_reducible refine wp_asA ?_ | with_reducible refine wp_asS ?_ | with_reducible refine wp_asP ?_ | with_reducible refine wp_nN ?_ | with_reducible refine wp_rN ?_ | with_reducible refine wp_xN ?_ | with_reducible refine wp_nB ?_ | with_reducible refine wp_rB ?_ | with_reducible refine wp_xB rfl ?_ | with_reducible refine wp_xB' rfl ?_ | with_reducible refine wp_bB ?_ | with_reducible refine wp_rX ?_ | with_reducible refine wp_xX ?_ | with_reducible refine wp_rE ?_ | with_reducible refine wp_xE ?_ | with_reducible refine wp_rR ?_ | with_reducible refine wp_xR ?_ | with_reducible refine wp_r0 ?_ | with_reducible refine wp_x0 ?_ | with_reducible refine wp_rF ?_ | with_reducible refine wp_rF0 ?_ | with_reducible refine wp_rF2 ?_ | with_reducible refine wp_rF3 ?_ | with_reducible refine wp_rF4 ?_ | with_reducible refine wp_condT ?_ | with_reducible refine wp_condF ?_ | with_reducible refine wp_condNT ?_ | with_reducible refine wp_condNF ?_)
  refine wp_bnd (trim_Idle_wp (wp_blk ?_))
  have hk5 := Keeps.push H4 (.cells [.sl s3] false)
  have dI : Cel (H4.push (.cells [.sl s3] false)) H4.n (.sl s3) := Cel.new
  have hr5 := hr4.keeps hk5
  have c5 := c4.keeps hk5
  generalize hb1 : H4.n = b1 at dI
  generalize H4.push (.cells [.sl s3] false) = H5 at dI hk5 hr5 c5
  refine wp_ny (wp_nwL ?_)
  generalize hvs : [((2 : Nat), HV.ptr (some (H.n, 0)))] = ws
  have hkL := Keeps.push H5 (.loop 93818678 ws .ready none)
  have hL : Lop (H5.push (.loop 93818678 ws .ready none)) H5.n 93818678 ws .ready none := Lop.new
  have hr6 := hr5.keeps hkL
  have c5l := c5.lt
  replace c5 := c5.keeps hkL
  replace dI := dI.keeps hkL
  have hs3l : ∀ b o, s3.p = some (b, o) → b < H5.n := by
    intro b o e
    have hs' : SlR H5 s3 4 (q.map Ins.cs) := hr5
    rcases hs'.mem with ⟨q1, _⟩ | ⟨b2, o2, _, _, q1, q2, _⟩
    · rw [q1] at e; cases e
    · rw [q1] at e; cases e; exact q2
  generalize H5.n = l at hL c5l hs3l
  generalize H5.push (.loop 93818678 ws .ready none) = H6 at hL hr6 c5 dI
  refine wp_bnd (trim_Idle_none h1 dI.get hr6 hF.2 hF.1 (fun i hi => none_idle (by rw [hq1]) hi) fun v H7 hk7 => ?_)
  have hL7 := hL.keeps hk7
  refine wp_endL0 hL7.get (by intro hh; cases hh) (wp_ret ?_)
  show wp _ _ _
  have hr8 : RProg (H7.set l (.loop 93818678 ws .exhausted none)) s3 q := (hr6.keeps hk7).but ((But.refl (fun b => b = l) H7).set (b := l) rfl _) (fun b o e hh => by have := hs3l b o e; omega)
  have c8 := (c5.keeps hk7).ne (b' := l) (o := .loop 93818678 ws .exhausted none) (by omega)
  generalize H7.set l (.loop 93818678 ws .exhausted none) = H8 at hr8 c8
  refine wp_nl (wp_bnd (trim_Trim_wp canF_chain hr8 hF fun s9 r H9 hr hrF hk9 hr9 => ?_))
  have : r = q := hr.self hq1
  subst this
  repeat' (first | with_reducible refine wp_finF ?_ | with_reducible refine wp_uA ?_ | with_reducible refine wp_uI ?_ | with_reducible refine wp_uB ?_ | with_reducible refine wp_uL ?_ | with_reducible refine wp_uS ?_ | with_reducible refine wp_uP ?_ | with_reducible refine wp_uc ?_ | with_reducible refine wp_nl ?_ | with_reducible refine wp_asB ?_ | with_reducible refine wp_asI ?_ | with_reducible refine wp_asSl ?_ | with_reducible refine wp_asT ?_ | with_reducible refine wp_asA ?_ | with_reducible refine wp_asS ?_ | with_reducible refine wp_asP ?_ | with_reducible refine wp_nN ?_ | with_reducible refine wp_rN ?_ | with_reducible refine wp_xN ?_ | with_reducible refine wp_nB ?_ | with_reducible refine wp_rB ?_ | with_reducible refine wp_xB rfl ?_ | with_reducible refine wp_xB' rfl ?_ | with_reducible refine wp_bB ?_ | with_reducible refine wp_rX ?_ | with_reducible refine wp_xX ?_ | with_reducible refine wp_rE ?_ | with_reducible refine wp_xE ?_ | with_reducible refine wp_rR ?_ | with_reducible refine wp_xR ?_ | with_reducible refine wp_r0 ?_ | with_reducible refine wp_x0 ?_ | with_reducible refine wp_rF ?_ | with_reducible refine wp_rF0 ?_ | with_reducible refine wp_rF2 ?_ | with_reducible refine wp_rF3 ?_ | with_reducible refine wp_rF4 ?_ | with_reducible refine wp_condT ?_ | with_reducible refine wp_condF ?_ | with_reducible refine wp_condNT ?_ | with_reducible refine wp_condNF ?_)
  have c9 := c8.keeps hk9
  refine wp_jn ?_
  refine wp_condE (fun _ => ?_) (fun c => absurd rfl c)
  refine wp_bnd (law29_same_wp (hr8.keeps hk9) hr9 (wp_asB (wp_stcel c9 rfl (wp_ret ?_))))
  show wp _ _ _
  refine wp_nl (wp_ldcel (Cel.self c9.lt) (wp_asB (wp_rF ?_)))
  rfl
end Go.Proofs.Ytolchnaegifckaa.HN
namespace Go.Proofs.Ytolchnaegifckaa.HN
open Go

theorem ref29_Once_wp {D : HV → List HV → M HV} {H : Heap} {Q : HV → Heap → Prop} {s : Sl} {p : List Ins} (hs : RProg H s p) (hc : CanB p)
    (h : ∀ s' H', Keeps H H' → RProg H' s' (trim1 p) → Q (.sl s') H') : wp (f_ref29_Once D [.sl s]) Q H := by
  unfold f_ref29_Once
  have h48 := hc.len
  have hlen := hs.lenI
  repeat' (first | with_reducible refine wp_finF ?_ | with_reducible refine wp_uA ?_ | with_reducible refine wp_uI ?_ | with_reducible refine wp_uB ?_ | with_reducible refine wp_uL ?_ | with_reducible refine wp_uS ?_ | with_reducible refine wp_uP ?_ | with_reducible refine wp_uc ?_ | with_reducible refine wp_nl ?_ | with_reducible refine wp_asB ?_ | with_reducible refine wp_asI ?_ | with_reducible refine wp_asSl ?_ | with_reducible refine wp_asT ?_ | with_reducible refine wp_asA ?_ | with_reducible refine wp_asS ?_ | with_reducible refine wp_asP ?_ | with_reducible refine wp_nN ?_ | with_reducible refine wp_rN ?_ | with_reducible refine wp_xN ?_ | with_reducible refine wp_nB ?_ | with_reducible refine wp_rB ?_ | with_reducible refine wp_xB rfl ?_ | with_reducible refine wp_xB' rfl ?_ | with_reducible refine wp_bB ?_ | with_reducible refine wp_rX ?_ | with_reducible refine wp_xX ?_ | with_reducible refine wp_rE ?_ | with_reducible refine wp_xE ?_ | with_reducible refine wp_rR ?_ | with_reducible refine wp_xR ?_ | with_reducible refine wp_r0 ?_ | with_reducible refine wp_x0 ?_ | with_reducible refine wp_rF ?_ | with_reducible refine wp_rF0 ?_ | with_reducible refine wp_rF2 ?_ | with_reducible refine wp_rF3 ?_ | with_reducible refine wp_rF4 ?_ | with_reducible refine wp_condT ?_ | with_reducible refine wp_condF ?_ | with_reducible refine wp_condNT ?_ | with_reducible refine wp_condNF ?_)
  refine wp_bnd (ref29_Idles_wp hs hc fun L hL hb => wp_asA ?_)
  have hLm : (L.map HV.bool).length = 48 := by simpa using hL
  refine wp_gd (by rw [hLm]; rfl) (wp_gd (by rw [hLm]; simp) ?_)
  rw [putN_full (by rw [hLm]; simp), hlen]
  have hidl := idleL_len p
  refine wp_blk ?_
  refine wp_loop (fun k vs H' => ∃ (i : Nat) (t : Sl), k + i = p.length ∧ vs = [.sl t, I (i : Int)] ∧ Own H H' t 4 ((trimG (idleL p) p i).map Ins.cs)) p.length
    ⟨0, _, by omega, rfl, Own.nil (Keeps.refl _) 4⟩ ?_
  rintro k vs H3 ⟨i, t, hki, rfl, hown⟩
  refine wp_uL (wp_uI (wp_nl (wp_condD (fun hi => ?_) (fun hi => ?_))))
  · have hi' : i < p.length := by omega
    have hw : wr ((i : Int) + 1) = ((i + 1 : Nat) : Int) := by rw [wr_small (by omega) (by omega)]; rfl
    have hs3 := hs.keeps hown.keeps
    have hiI : i < (idleL p).length := by omega
    have hiL : i < L.length := by omega
    have hg : L[i] = (idleL p)[i] := by
      rw [Bool.eq_iff_iff, ← getD_of hiL, hb, idleL_get hiI]
      exact ⟨fun ⟨_, b⟩ => b, fun b => ⟨hi', b⟩⟩
    refine wp_blk ?_
    refine wp_at hs3 hi' fun _ _ => ?_
    show wp (uI .i64 [I (p[i]).op, I (p[i]).a, I (p[i]).b, I (p[i]).c] _) _ _
    refine wp_uI (wp_uI (wp_uI (wp_uI (wp_nl ?_))))
    refine wp_gdD (by omega) (wp_gdD (by omega) (wp_gxB (i := i) (by omega) hiL (wp_asB ?_)))
    rw [hg]
    refine wp_cond (fun c => ?_) (fun c => ?_)
    · refine wp_ret ?_
      show wp _ _ _
      refine wp_uL (wp_nl (wp_ret ?_))
      rw [hw]
      refine ⟨k - 1, by omega, i + 1, t, by omega, rfl, ?_⟩
      rw [trimG_succ hi', getD_of hiI, c]
      simpa using hown
    · refine wp_jnP ((p[i]).op = 3 ∨ (p[i]).op = 20) ?_ (fun hh => ?_) (fun hh => ?_)
      · refine wp_condE (fun c => wp_bB ?_) (fun c => wp_bB ?_)
        · simp [c]
        · simp [c]
      all_goals
        have hgl := trimG_len (bs := idleL p) (p := p) hidl (i := i) (by omega)
        have hkl := keptN_le (idleL p) i
        have tail : ∀ x : Ins, x = movedI (idleL p) p[i] → wp (apd t 4 32 1 x.cs fun x43 => ret (Leaf.norm [.sl x43])) (PBlk 1 (PLoop (fun k vs H' => ∃ (i : Nat) (t : Sl), k + i = p.length ∧ vs = [.sl t, I (i : Int)] ∧ Own H H' t 4 ((trimG (idleL p) p i).map Ins.cs)) k
            (PBlk 0 (PFin Q) fun vs => uL vs fun x6_2 r_16 => nl r_16 (ret (.ret [.sl x6_2])))) fun vs_2 => uL vs_2 fun x6_1 r_15 => nl r_15 (ret (.norm [.sl x6_1, I (wr ((i : Int) + 1))]))) H3 := by
          rintro x rfl
          refine wp_apd hown (l := (movedI (idleL p) p[i]).cs) rfl (by omega) (by simp only [List.length_map, hgl, room]; omega) (by simp only [List.length_map, hgl, room]; omega) ?_
          intro s' H' ho _ _ _
          refine wp_ret ?_
          show wp _ _ _
          refine wp_uL (wp_nl (wp_ret ?_))
          rw [hw]
          refine ⟨k - 1, by omega, i + 1, s', by omega, rfl, ?_⟩
          rw [trimG_succ hi', getD_of hiI, c]
          simpa using ho
      · obtain ⟨f1, f2⟩ := hc.fwd i hi' hh
        refine wp_uB (wp_nl (wp_jn (wp_condT ?_)))
        obtain ⟨q, hq⟩ : ∃ q, (p[i]).a.toNat = q := ⟨_, rfl⟩
        have ea : (p[i]).a = (q : Int) := by omega
        rw [ea]
        refine wp_bnd (ref29_Ahead_wp hs3 hc (a := q) (by omega) (wp_asI (wp_ret ?_)))
        show wp _ _ _
        refine wp_uA (wp_uI (wp_uI (wp_uI (wp_uI (wp_nl (wp_nl ?_))))))
        exact tail ⟨(p[i]).op, (keptN (idleL p) q : Int), (p[i]).b, (p[i]).c⟩ (by unfold movedI; rw [if_pos hh, hq])
      · refine wp_uB (wp_nl (wp_jn (wp_condF (wp_ret ?_))))
        show wp _ _ _
        refine wp_uA (wp_uI (wp_uI (wp_uI (wp_uI (wp_nl (wp_nl ?_))))))
        exact tail p[i] (by unfold movedI; rw [if_neg hh])
  · have : i = p.length := by omega
    subst this
    refine wp_ret ?_
    show wp _ _ _
    refine wp_uL (wp_nl (wp_rF ?_))
    exact h t H3 hown.keeps hown.slR
theorem ref29_Trim_wp {D : HV → List HV → M HV} {Q : HV → Heap → Prop} : ∀ (k : Nat) {H : Heap} {s : Sl} {p : List Ins}, RProg H s p → CanF p → p.length < k →
    (∀ s' q H', Trims p q → Keeps H H' → RProg H' s' q → Q (.sl s') H') → wp (l_ref29_Trim D k [.sl s]) Q H
  | 0, H, s, p, _, _, hk, _ => by omega
  | k + 1, H, s, p, hs, hF, hk, h => by
    show wp (x_ref29_Trim D (l_ref29_Trim D k) [.sl s]) Q H
    unfold x_ref29_Trim
    have hlen := hs.lenI
    have hle := trim1_le p
    repeat' (first | with_reducible refine wp_finF ?_ | with_reducible refine wp_uA ?_ | with_reducible refine wp_uI ?_ | with_reducible refine wp_uB ?_ | with_reducible refine wp_uL ?_ | with_reducible refine wp_uS ?_ | with_reducible refine wp_uP ?_ | with_reducible refine wp_uc ?_ | with_reducible refine wp_nl ?_ | with_reducible refine wp_asB ?_ | with_reducible refine wp_asI ?_ | with_reducible refine wp_asSl ?_ | with_reducible refine wp_asT ?_ | with_reducible refine wp_asA ?_ | with_reducible refine wp_asS ?_ | with_reducible refine wp_asP ?_ | with_reducible refine wp_nN ?_ | with_reducible refine wp_rN ?_ | with_reducible refine wp_xN ?_ | with_reducible refine wp_nB ?_ | with_reducible refine wp_rB ?_ | with_reducible refine wp_xB rfl ?_ | with_reducible refine wp_xB' rfl ?_ | with_reducible refine wp_bB ?_ | with_reducible refine wp_rX ?_ | with_reducible refine wp_xX ?_ | with_reducible refine wp_rE ?_ | with_reducible refine wp_xE ?_ | with_reducible refine wp_rR ?_ | with_reducible refine wp_xR ?_ | with_reducible refine wp_r0 ?_ | with_reducible refine wp_x0 ?_ | with_reducible refine wp_rF ?_ | with_reducible refine wp_rF0 ?_ | with_reducible refine wp_rF2 ?_ | with_reducible refine wp_rF3 ?_ | with_reducible refine wp_rF4 ?_ | with_reducible refine wp_condT ?_ | with_reducible refine wp_condF ?_ | with_reducible refine wp_condNT ?_ | with_reducible refine wp_condNF ?_)
    refine wp_bnd (ref29_Once_wp hs hF.1 fun t H1 hk1 hr1 => wp_asSl ?_)
    have l1 := hr1.lenI
    refine wp_condE (fun c => wp_rF (h t _ H1 (.last (by omega)) hk1 hr1)) (fun c => ?_)
    refine wp_bnd (ref29_Trim_wp k hr1 (canF_chain.next p hF) (by omega) fun s' q H' hq hk' hr' => wp_asSl (wp_rF ?_))
    exact h s' q H' (.more (by omega) hq) (hk1.trans hk') hr'
theorem trim_Once_wpN {D : HV → List HV → M HV} {H : Heap} {Q : HV → Heap → Prop} {s : Sl} {p : List Ins} (hs : RProg H s p) (hf : ∀ x ∈ p, IFit x) (hc : ¬ CanB p)
    (h : ∀ H', Keeps H H' → Q (.tup [.sl ⟨none, 0, 0, none⟩, I 0]) H') : wp (f_trim_Once D [.sl s]) Q H := by
  unfold f_trim_Once
  repeat' (first | with_reducible refine wp_finF ?_ | with_reducible refine wp_uA ?_ | with_reducible refine wp_uI ?_ | with_reducible refine wp_uB ?_ | with_reducible refine wp_uL ?_ | with_reducible refine wp_uS ?_ | with_reducible refine wp_uP ?_ | with_reducible refine wp_uc ?_ | with_reducible refine wp_nl ?_ | with_reducible refine wp_asB ?_ | with_reducible refine wp_asI ?_ | with_reducible refine wp_asSl ?_ | with_reducible refine wp_asT ?_ | with_reducible refine wp_asA ?_ | with_reducible refine wp_asS ?_ | with_reducible refine wp_asP ?_ | with_reducible refine wp_nN ?_ | with_reducible refine wp_rN ?_ | with_reducible refine wp_xN ?_ | with_reducible refine wp_nB ?_ | with_reducible refine wp_rB ?_ | with_reducible refine wp_xB rfl ?_ | with_reducible refine wp_xB' rfl ?_ | with_reducible refine wp_bB ?_ | with_reducible refine wp_rX ?_ | with_reducible refine wp_xX ?_ | with_reducible refine wp_rE ?_ | with_reducible refine wp_xE ?_ | with_reducible refine wp_rR ?_ | with_reducible refine wp_xR ?_ | with_reducible refine wp_r0 ?_ | with_reducible refine wp_x0 ?_ | with_reducible refine wp_rF ?_ | with_reducible refine wp_rF0 ?_ | with_reducible refine wp_rF2 ?_ | with_reducible refine wp_rF3 ?_ | with_reducible refine wp_rF4 ?_ | with_reducible refine wp_condT ?_ | with_reducible refine wp_condF ?_ | with_reducible refine wp_condNT ?_ | with_reducible refine wp_condNF ?_)
  refine wp_bnd (trim_idle_wpN hs hf hc fun b H1 hk1 hb1 hB => wp_asSl ?_)
  have hR : RBools H1 (numSl b 0) [] := hB.rows
  refine wp_bnd (trim_places_wp hR (by simp) fun b2 H2 w hk2 _ hwl hws hN => wp_asSl ?_)
  refine wp_blk ?_
  refine wp_loop (fun k vs H' => vs = [.sl ⟨none, 0, 0, none⟩, I 0] ∧ H' = H2) 0 ⟨rfl, rfl⟩ ?_
  rintro k vs H3 ⟨rfl, rfl⟩
  refine wp_uL (wp_uI (wp_nl (wp_condD (fun hi => ?_) (fun hi => ?_))))
  · have : (numSl b 0).len = 0 := rfl
    omega
  · refine wp_ret ?_
    show wp _ _ _
    refine wp_uL (wp_nl (wp_rF2 ?_))
    exact h _ (hk1.trans hk2)
theorem law29_TrimOnce_wp {D : HV → List HV → M HV} {H : Heap} {s : Sl} {p : List Ins} (hs : RProg H s p) (hf : ∀ x ∈ p, IFit x) : wp (f_law29_TrimOnce D [.sl s]) Yes H := by
  unfold f_law29_TrimOnce
  have hlen := hs.lenI
  repeat' (first | with_reducible refine wp_finF ?_ | with_reducible refine wp_uA ?_ | with_reducible refine wp_uI ?_ | with_reducible refine wp_uB ?_ | with_reducible refine wp_uL ?_ | with_reducible refine wp_uS ?_ | with_reducible refine wp_uP ?_ | with_reducible refine wp_uc ?_ | with_reducible refine wp_nl ?_ | with_reducible refine wp_asB ?_ | with_reducible refine wp_asI ?_ | with_reducible refine wp_asSl ?_ | with_reducible refine wp_asT ?_ | with_reducible refine wp_asA ?_ | with_reducible refine wp_asS ?_ | with_reducible refine wp_asP ?_ | with_reducible refine wp_nN ?_ | with_reducible refine wp_rN ?_ | with_reducible refine wp_xN ?_ | with_reducible refine wp_nB ?_ | with_reducible refine wp_rB ?_ | with_reducible refine wp_xB rfl ?_ | with_reducible refine wp_xB' rfl ?_ | with_reducible refine wp_bB ?_ | with_reducible refine wp_rX ?_ | with_reducible refine wp_xX ?_ | with_reducible refine wp_rE ?_ | with_reducible refine wp_xE ?_ | with_reducible refine wp_rR ?_ | with_reducible refine wp_xR ?_ | with_reducible refine wp_r0 ?_ | with_reducible refine wp_x0 ?_ | with_reducible refine wp_rF ?_ | with_reducible refine wp_rF0 ?_ | with_reducible refine wp_rF2 ?_ | with_reducible refine wp_rF3 ?_ | with_reducible refine wp_rF4 ?_ | with_reducible refine wp_condT ?_ | with_reducible refine wp_condF ?_ | with_reducible refine wp_condNT ?_ | with_reducible refine wp_condNF ?_)
  refine wp_bnd (law29_alive_wp fun H1 hk1 => wp_asB (wp_condNT ?_))
  have hs1 := hs.keeps hk1
  by_cases hc : CanB p
  · have hF : CanF p := ⟨hc, hf⟩
    have hle := trim1_le p
    have h48 := hc.len
    refine wp_bnd (trim_Once_wp hs1 hf hc fun s2 H2 hk2 hr2 => wp_asT (wp_uL (wp_uI (wp_nl ?_))))
    have l2 := hr2.lenI
    have hs2 := hs1.keeps hk2
    refine wp_bnd (trim_Trim_wp canF_chain hs2 hF fun s3 q H3 hq hqF hk3 hr3 => wp_asT (wp_uL (wp_uI (wp_nl ?_))))
    have hs3 := hs2.keeps hk3
    refine wp_bnd (ref07_Check_wp hs3 (fun hn => absurd hc.len (by omega)) (fun _ => ?_) (fun _ hn => absurd hc hn))
    refine wp_asT (wp_uI (wp_uI (wp_nl (wp_condNE (fun c => absurd rfl c) (fun _ => ?_)))))
    refine wp_jn ?_
    refine wp_bnd (ref29_Once_wp hs3 hc fun s4 H4 hk4 hr4 => wp_asSl ?_)
    refine wp_bnd (law29_same_wp ((hr2.keeps hk3).keeps hk4) hr4 (wp_asB (wp_condT ?_)))
    refine wp_condE (fun _ => ?_) (fun c => absurd ?_ c)
    · refine wp_bnd (ref29_Trim_wp 100 (hs3.keeps hk4) hF (by omega) fun s5 q5 H5 hq5 hk5 hr5 => wp_asSl ?_)
      have : q5 = q := hq.only hq5
      subst this
      refine wp_bnd (law29_same_wp ((hr3.keeps hk4).keeps hk5) hr5 (wp_asB (wp_condT (wp_ret ?_))))
      show wp _ _ _
      exact wp_uB (wp_nl (wp_rF rfl))
    · rw [l2, hlen, wr_small (by omega) (by omega)]
  · refine wp_bnd (trim_Once_wpN hs1 hf hc fun H2 hk2 => wp_asT (wp_uL (wp_uI (wp_nl ?_))))
    have hs2 := hs1.keeps hk2
    refine wp_bnd ?_
    unfold f_trim_Trim
    repeat' (first | with_reducible refine wp_finF ?_ | with_reducible refine wp_uA ?_ | with_reducible refine wp_uI ?_ | with_reducible refine wp_uB ?_ | with_reducible refine wp_uL ?_ | with_reducible refine wp_uS ?_ | with_reducible refine wp_uP ?_ | with_reducible refine wp_uc ?_ | with_reducible refine wp_nl ?_ | with_reducible refine wp_asB ?_ | with_reducible refine wp_asI ?_ | with_reducible refine wp_asSl ?_ | with_reducible refine wp_asT ?_ | with_reducible refine wp_asA ?_ | with_reducible refine wp_asS ?_ | with_reducible refine wp_asP ?_ | with_reducible refine wp_nN ?_ | with_reducible refine wp_rN ?_ | with_reducible refine wp_xN ?_ | with_reducible refine wp_nB ?_ | with_reducible refine wp_rB ?_ | with_reducible refine wp_xB rfl ?_ | with_reducible refine wp_xB' rfl ?_ | with_reducible refine wp_bB ?_ | with_reducible refine wp_rX ?_ | with_reducible refine wp_xX ?_ | with_reducible refine wp_rE ?_ | with_reducible refine wp_xE ?_ | with_reducible refine wp_rR ?_ | with_reducible refine wp_xR ?_ | with_reducible refine wp_r0 ?_ | with_reducible refine wp_x0 ?_ | with_reducible refine wp_rF ?_ | with_reducible refine wp_rF0 ?_ | with_reducible refine wp_rF2 ?_ | with_reducible refine wp_rF3 ?_ | with_reducible refine wp_rF4 ?_ | with_reducible refine wp_condT ?_ | with_reducible refine wp_condF ?_ | with_reducible refine wp_condNT ?_ | with_reducible refine wp_condNF ?_)
    refine wp_bnd (code_Check_wp hs2 hf (fun hn => ?_) (fun hcc => absurd (canC_iff.1 hcc) hc) (fun hn _ i H3 hk3 => ?_))
    · refine wp_asT (wp_uI (wp_uI (wp_nl (wp_condNE (fun _ => ?_) (fun c => absurd c (by decide))))))
      refine wp_rF2 ?_
      refine wp_asT (wp_uL (wp_uI (wp_nl ?_)))
      refine wp_bnd (ref07_Check_wp hs2 (fun _ => ?_) (fun hh => absurd hh hc) (fun hh => by omega))
      refine wp_asT (wp_uI (wp_uI (wp_nl (wp_condNE (fun _ => ?_) (fun c => absurd c (by decide))))))
      refine wp_jn (wp_condE (fun _ => wp_condE (fun _ => wp_condE (fun _ => wp_ret ?_) (fun c => absurd rfl c)) (fun c => absurd rfl c)) (fun c => absurd rfl c))
      show wp _ _ _
      exact wp_uB (wp_nl (wp_rF rfl))
    · refine wp_asT (wp_uI (wp_uI (wp_nl (wp_condNE (fun _ => ?_) (fun c => absurd c (by decide))))))
      refine wp_rF2 ?_
      refine wp_asT (wp_uL (wp_uI (wp_nl ?_)))
      refine wp_bnd (ref07_Check_wp (hs2.keeps hk3) (fun hh => by omega) (fun hh => absurd hh hc) (fun _ _ j => ?_))
      refine wp_asT (wp_uI (wp_uI (wp_nl (wp_condNE (fun _ => ?_) (fun c => absurd c (by decide))))))
      refine wp_jn (wp_condE (fun _ => wp_condE (fun _ => wp_condE (fun _ => wp_ret ?_) (fun c => absurd rfl c)) (fun c => absurd rfl c)) (fun c => absurd rfl c))
      show wp _ _ _
      exact wp_uB (wp_nl (wp_rF rfl))
end Go.Proofs.Ytolchnaegifckaa.HN
