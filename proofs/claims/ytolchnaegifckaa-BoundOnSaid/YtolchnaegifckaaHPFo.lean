/- From goes over all places to which ways lead; law27.marked. Conditions: the program can be, and the place is one (lemmas). -/
import Derived.Test.YtolchnaegifckaaHPEj
namespace Go.Proofs.Ytolchnaegifckaa.HP
open Go

/-- the iterator: it yields the places to which ways lead. -/
theorem bound_From_1_wp {D : DD} {Hs : Heap} {l b b' : Nat} {s : Sl} {p : List Ins} {a : Nat} {Mo : Nat → Prop} {J : Nat → Heap → Prop} {X : Heap → Prop} (hb : Hs.get b = .cells [.sl s] false) (hb' : Hs.get b' = .cells [I (a : Int)] false) (hbn : b < Hs.n) (hbn' : b' < Hs.n) (hs : RProg Hs s p) (hf : ∀ x ∈ p, IFit x)
    (hc : CanB p) (ha : a ≤ p.length) (hM : ∀ b, Mo b → b < Hs.n) (h0 : ∀ H', Keeps Hs H' → J 0 H') (hskip : ∀ j H, (hj : j < (seenL p a).length) → (seenL p a)[j] = false → J j H → J (j + 1) H)
    (hround : ∀ j H1, (hj : j < (seenL p a).length) → (seenL p a)[j] = true → But Mo Hs H1 → J j H1 → wp (D (.yld l) [I j]) (fun r H2 => But Mo H1 H2 ∧ ((r = .bool true ∧ J (j + 1) H2) ∨ (r = .bool false ∧ X H2))) H1) :
    wp (f_bound_From_1 D ([] ++ [.yld l] ++ [.ptr (some (b, 0)), .ptr (some (b', 0))])) (fun _ H' => But Mo Hs H' ∧ (J (p.length + 1) H' ∨ X H')) Hs := by
  show wp (f_bound_From_1 D [.yld l, .ptr (some (b, 0)), .ptr (some (b', 0))]) _ _
  unfold f_bound_From_1
  have hlen := hs.lenI
  refine wp_finF (wp_uc (wp_uP (wp_uP (wp_nl ?_))))
  refine wp_jn ?_
  show wp (mP (some (b, 0)) _) _ _
  rw [mP_eq']
  refine wp_ldCg hb rfl (wp_asSl ?_)
  refine wp_bnd (bound_can_wp hs hf fun z H1 hk1 hz => wp_asB ?_)
  have : z = true := hz.2 hc
  subst this
  have g1 : H1.get b = .cells [.sl s] false := by rw [hk1.get b hbn]; exact hb
  have g2 : H1.get b' = .cells [I (a : Int)] false := by rw [hk1.get b' hbn']; exact hb'
  refine wp_condNT ?_
  show wp (mP (some (b', 0)) _) _ _
  rw [mP_eq']
  refine wp_ldCg g2 rfl (wp_asI (wp_condD (fun c => by omega) (fun _ => ?_)))
  show wp (mP (some (b', 0)) _) _ _
  rw [mP_eq']
  refine wp_ldCg g2 rfl (wp_asI ?_)
  show wp (mP (some (b, 0)) _) _ _
  rw [mP_eq']
  refine wp_ldCg g1 rfl (wp_asSl (wp_ret ?_))
  show wp _ _ _
  refine wp_uB (wp_nl (wp_condD (fun c => by omega) (fun _ => ?_)))
  show wp (mP (some (b, 0)) _) _ _
  rw [mP_eq']
  refine wp_ldCg g1 rfl (wp_asSl ?_)
  show wp (mP (some (b', 0)) _) _ _
  rw [mP_eq']
  refine wp_ldCg g2 rfl (wp_asI ?_)
  refine wp_bnd (bound_seen_wp (hs.keeps hk1) hc ha fun b2 H2 hk2 hb2 hB => wp_asSl ?_)
  have hk := hk1.trans hk2
  have hn1 := hk1.n
  have hl := seenL_len p a
  have hR := hB.rows
  rw [hl] at hR
  refine wp_blk (wp.mono (wp_iterB (J := J) (X := X) (bs := seenL p a) hR hk.but (fun b o e hm => ?_) (h0 H2 hk) hskip hround rfl) ?_)
  · simp only [numSl, Option.some.injEq, Prod.mk.injEq] at e
    have := hM b hm; omega
  · rintro lf H3 ⟨hb3, ⟨rfl, hJ⟩ | ⟨rfl, hX⟩⟩
    · show wp _ _ _
      rw [hl] at hJ
      exact wp_nl (wp_rF0 ⟨hb3, .inl hJ⟩)
    · exact ⟨hb3, .inr hX⟩
theorem bound_From_wp {D : DD} {H : Heap} {Q : HV → Heap → Prop} {s : Sl} {a : Int} (h : Q (.func n_bound_From_1 [] [.ptr (some (H.n, 0)), .ptr (some (H.n + 1, 0))]) ((H.push (.cells [.sl s] false)).push (.cells [I a] false))) : wp (f_bound_From D [.sl s, I a]) Q H := by
  unfold f_bound_From
  repeat' (first | with_reducible refine wp_finF ?_ | with_reducible refine wp_uA ?_ | with_reducible refine wp_uI ?_ | with_reducible refine wp_uB ?_ | with_reducible refine wp_uL ?_ | with_reducible refine wp_uS ?_ | with_reducible refine wp_uP ?_ | with_reducible refine wp_uc ?_ | with_reducible refine wp_nl ?_ | with_reducible refine wp_asB ?_ | with_reducible refine wp_asI ?_ | with_reducible refine wp_asSl ?_ | with_reducible refine wp_asT ?_ | with_reducible refine wp_asA ?_ | with_reducible refine wp_asS ?_ | with_reducible refine wp_asP ?_ | with_reducible refine wp_nN ?_ | with_reducible refine wp_rN ?_ | with_reducible refine wp_xN ?_ | with_reducible refine wp_nB ?_ | with_reducible refine wp_rB ?_ | with_reducible refine wp_xB rfl ?_ | with_reducible refine wp_xB' rfl ?_ | with_reducible refine wp_bB ?_ | with_reducible refine wp_rX ?_ | with_reducible refine wp_xX ?_ | with_reducible refine wp_rE ?_ | with_reducible refine wp_xE ?_ | with_reducible refine wp_rR ?_ | with_reducible refine wp_xR ?_ | with_reducible refine wp_r0 ?_ | with_reducible refine wp_x0 ?_ | with_reducible refine wp_rF ?_ | with_reducible refine wp_rF0 ?_ | with_reducible refine wp_rF2 ?_ | with_reducible refine wp_rF3 ?_ | with_reducible refine wp_rF4 ?_ | with_reducible refine wp_condT ?_ | with_reducible refine wp_condF ?_ | with_reducible refine wp_condNT ?_ | with_reducible refine wp_condNF ?_)
  refine wp_nw (wp_nw (wp_rF ?_))
  exact h

/-- what law27.marked keeps in memory. -/
structure MK (H : Heap) (n : Nat) (s : Sl) (L : List Bool) : Prop where
  c2 : Cel H n (.sl s)
  c4 : H.get (n + 1) = .cells (List.replicate 49 (HV.bool false)) false
  l4 : n + 1 < H.n
  c5 : Cel H (n + 2) (.bool false)
  c6 : Bools H (n + 3) L
theorem MK.keeps {H H' : Heap} {n : Nat} {s : Sl} {L : List Bool} (h : MK H n s L) (k : Keeps H H') : MK H' n s L :=
  ⟨h.c2.keeps k, by rw [k.get _ h.l4]; exact h.c4, Nat.lt_of_lt_of_le h.l4 k.n, h.c5.keeps k, h.c6.keeps k⟩
theorem MK.ne {H : Heap} {n : Nat} {s : Sl} {L : List Bool} (h : MK H n s L) {b : Nat} (hb : n + 3 < b) (o : HObj) : MK (H.set b o) n s L :=
  ⟨h.c2.ne (by omega), by simp only [Heap.set]; rw [if_neg (by omega)]; exact h.c4, h.l4, h.c5.ne (by omega), ⟨h.c6.lt, by simp only [Heap.set]; rw [if_neg (by omega)]; exact h.c6.get, h.c6.len⟩⟩
theorem MK.mark {H : Heap} {n : Nat} {s : Sl} {L : List Bool} (h : MK H n s L) (i : Nat) : MK (H.set (n + 3) (.cells ((L.map HV.bool).set i (.bool true)) false)) n s (L.set i true) :=
  ⟨h.c2.ne (by omega), by simp only [Heap.set]; rw [if_neg (by omega)]; exact h.c4, h.l4, h.c5.ne (by omega), h.c6.set i true⟩

theorem marked_round {D : DD} {Q : HV → Heap → Prop} {H : Heap} {l n : Nat} {s : Sl} {p : List Ins} {L : List Bool} {j : Nat} {ws : List (Nat × HV)}
    (hws : ws = [(2, .ptr (some (n, 0))), (4, .ptr (some (n + 1, 0))), (5, .ptr (some (n + 2, 0))), (6, .ptr (some (n + 3, 0)))]) (hl : n + 3 < l) (hL : Lop H l 6300482 ws .ready none) (ht : MK H n s L) (hLl : L.length = 49) (hs : RProg H s p) (hc : CanB p) (hj : j ≤ p.length)
    (h : ∀ H', But (fun b => b = l ∨ b = n + 3) H H' → MK H' n s (L.set j true) → Lop H' l 6300482 ws .ready none → Q (.bool true) H') :
    wp (r0_law27_marked D l ws [I j]) (PRnd l Q) H := by
  unfold r0_law27_marked
  subst hws
  have h48 := hc.len
  have hlen := hs.lenI
  refine wp_gdS rfl ?_
  refine wp_uP (wp_uP (wp_uP (wp_uP (wp_nl (wp_uI (wp_nl (wp_busyL hL.get ?_)))))))
  generalize hws : [(2, HV.ptr (some (n, 0))), (4, .ptr (some (n + 1, 0))), (5, .ptr (some (n + 2, 0))), (6, .ptr (some (n + 3, 0)))] = ws at *
  have hB0 := (But.refl (fun b => b = l ∨ b = n + 3) H).set (b := l) (.inl rfl) (.loop 6300482 ws .busy none)
  have hL1 : Lop (H.set l (.loop 6300482 ws .busy none)) l 6300482 ws .busy none := Lop.self hL.lt
  have ht1 := ht.ne hl (.loop 6300482 ws .busy none)
  generalize H.set l (.loop 6300482 ws .busy none) = H1 at hB0 hL1 ht1
  refine wp_jnP False ?_ (fun hh => hh.elim) (fun _ => ?_)
  · refine wp_condD (fun c => by omega) (fun _ => ?_)
    show wp (mP (some (n, 0)) _) _ _
    rw [mP_eq']
    refine wp_ldcel ht1.c2 (wp_asSl (wp_condD (fun c => by omega) (fun _ => wp_bB ⟨fun hh => ?_, fun hh => hh.elim⟩)))
    have := of_decide_eq_true hh
    omega
  · refine wp_uB (wp_nl (wp_condF ?_))
    show wp (mP (some (n + 3, 0)) _) _ _
    rw [mP_eq']
    refine wp_gdD (by omega) (wp_gdD (by omega) ?_)
    rw [Int.toNat_natCast, Nat.zero_add, Nat.mul_one]
    refine wp_stC ht1.c6.get (by rw [List.length_map]; omega) rfl ?_
    have hB2 := hB0.set (b := n + 3) (.inr rfl) (.cells ((L.map HV.bool).set j (.bool true)) false)
    have ht2 := ht1.mark j
    have hL2 := hL1.ne (b' := n + 3) (o := .cells ((L.map HV.bool).set j (.bool true)) false) (by omega)
    generalize H1.set (n + 3) (.cells ((L.map HV.bool).set j (.bool true)) false) = H2 at hB2 ht2 hL2
    refine wp_nY hL2.get ?_
    exact h _ (hB2.set (b := l) (.inl rfl) _) (ht2.ne hl _) (Lop.self hL2.lt)

theorem wp_ldNg {α : Type} {Q : α → Heap → Prop} {H : Heap} {b m : Nat} {cs : List HV} {ro : Bool} {f : List HV → M α} (hb : H.get b = .cells cs ro) (hm : cs.length = m) (h : wp (f cs) Q H) : wp (ldN b 0 m f) Q H := by
  refine wp_of (m' := f cs) (fun n => ?_) h
  unfold ldN
  simp only [hb]
  unfold gxN
  rw [show decide (0 + m ≤ cs.length) = true from by simp; omega, List.drop_zero, List.take_of_length_le (by omega)]
  rfl
theorem wp_stNg {α : Type} {Q : α → Heap → Prop} {H : Heap} {b : Nat} {cs vs : List HV} {m : M α} (hb : H.get b = .cells cs false) (hm : vs.length = cs.length) (h : wp m Q (H.set b (.cells vs false))) : wp (stN b 0 vs m) Q H := by
  refine wp_of (m' := m) (H' := H.set b (.cells vs false)) (fun n => ?_) h
  unfold stN
  simp only [hb]
  rw [putN_full hm, show decide (0 + vs.length ≤ cs.length) = true from by simp; omega]
  rfl
theorem law27_marked_wp {cl : List (Nat × Clo)} {rn : List (Nat × Rnd)} {D0 : DD} (h1 : lkA cl n_bound_From_1 = some f_bound_From_1) (h2 : lkA rn 6300482 = some r0_law27_marked) {H : Heap} {Q : HV → Heap → Prop} {s : Sl} {p : List Ins} (hs : RProg H s p) (hf : ∀ x ∈ p, IFit x)
    (hc : CanB p) {a : Nat} (ha : a ≤ p.length) (h : ∀ H' (L : List Bool), Keeps H H' → L.length = 49 → (∀ j, L.getD j false = true ↔ Rch p a j) → Q (.tup [.agg (L.map HV.bool), .bool true]) H') :
    wp (f_law27_marked (stepD cl rn (stepD cl rn D0)) [.sl s, I a]) Q H := by
  unfold f_law27_marked
  have h48 := hc.len
  repeat' (first | with_reducible refine wp_finF ?_ | with_reducible refine wp_uA ?_ | with_reducible refine wp_uI ?_ | with_reducible refine wp_uB ?_ | with_reducible refine wp_uL ?_ | with_reducible refine wp_uS ?_ | with_reducible refine wp_uP ?_ | with_reducible refine wp_uc ?_ | with_reducible refine wp_nl ?_ | with_reducible refine wp_asB ?_ | with_reducible refine wp_asI ?_ | with_reducible refine wp_asSl ?_ | with_reducible refine wp_asT ?_ | with_reducible refine wp_asA ?_ | with_reducible refine wp_asS ?_ | with_reducible refine wp_asP ?_ | with_reducible refine wp_nN ?_ | with_reducible refine wp_rN ?_ | with_reducible refine wp_xN ?_ | with_reducible refine wp_nB ?_ | with_reducible refine wp_rB ?_ | with_reducible refine wp_xB rfl ?_ | with_reducible refine wp_xB' rfl ?_ | with_reducible refine wp_bB ?_ | with_reducible refine wp_rX ?_ | with_reducible refine wp_xX ?_ | with_reducible refine wp_rE ?_ | with_reducible refine wp_xE ?_ | with_reducible refine wp_rR ?_ | with_reducible refine wp_xR ?_ | with_reducible refine wp_r0 ?_ | with_reducible refine wp_x0 ?_ | with_reducible refine wp_rF ?_ | with_reducible refine wp_rF0 ?_ | with_reducible refine wp_rF2 ?_ | with_reducible refine wp_rF3 ?_ | with_reducible refine wp_rF4 ?_ | with_reducible refine wp_condT ?_ | with_reducible refine wp_condF ?_ | with_reducible refine wp_condNT ?_ | with_reducible refine wp_condNF ?_)
  refine wp_nw (wp_nw (wp_nw (wp_nw ?_)))
  rw [show (((H.push (.cells [.sl s] false)).push (.cells (List.replicate 49 (HV.bool false)) false)).push (.cells [.bool false] false)).n = H.n + 3 from rfl, show ((H.push (.cells [.sl s] false)).push (.cells (List.replicate 49 (HV.bool false)) false)).n = H.n + 2 from rfl, show (H.push (.cells [.sl s] false)).n = H.n + 1 from rfl]
  have hk0 : Keeps H ((((H.push (.cells [.sl s] false)).push (.cells (List.replicate 49 (HV.bool false)) false)).push (.cells [.bool false] false)).push (.cells (List.replicate 49 (HV.bool false)) false)) := (((Keeps.push _ _).trans (Keeps.push _ _)).trans (Keeps.push _ _)).trans (Keeps.push _ _)
  have e0 : List.replicate 49 (HV.bool false) = (List.replicate 49 false).map HV.bool := by rw [List.map_replicate]
  have ht : MK ((((H.push (.cells [.sl s] false)).push (.cells (List.replicate 49 (HV.bool false)) false)).push (.cells [.bool false] false)).push (.cells (List.replicate 49 (HV.bool false)) false)) H.n s (List.replicate 49 false) := by
    refine ⟨((Cel.new.keeps (Keeps.push _ _)).keeps (Keeps.push _ _)).keeps (Keeps.push _ _), by simp [Heap.push], by simp [Heap.push], Cel.new.keeps (Keeps.push _ _), ⟨by simp [Heap.push], by rw [← e0]; simp [Heap.push], by simp⟩⟩
  generalize (((H.push (.cells [.sl s] false)).push (.cells (List.replicate 49 (HV.bool false)) false)).push (.cells [.bool false] false)).push (.cells (List.replicate 49 (HV.bool false)) false) = H1 at hk0 ht
  have hn0 := hk0.n
  generalize hn : H.n = n at ht
  refine wp_ldcel ht.c2 (wp_asSl (wp_bnd (bound_From_wp (wp_blk ?_))))
  have hk1 := (Keeps.push H1 (.cells [.sl s] false)).trans (Keeps.push (H1.push (.cells [.sl s] false)) (.cells [I (a : Int)] false))
  have ga : Cel ((H1.push (.cells [.sl s] false)).push (.cells [I (a : Int)] false)) H1.n (.sl s) := Cel.new.keeps (Keeps.push _ _)
  have gb : Cel ((H1.push (.cells [.sl s] false)).push (.cells [I (a : Int)] false)) (H1.n + 1) (I (a : Int)) := Cel.new
  generalize (H1.push (.cells [.sl s] false)).push (.cells [I (a : Int)] false) = H2 at hk1 ga gb
  generalize H1.n = m at ga gb
  replace ht := ht.keeps hk1
  refine wp_ny (wp_nwL ?_)
  generalize hws : [((2 : Nat), HV.ptr (some (n, 0))), (4, .ptr (some (n + 1, 0))), (5, .ptr (some (n + 2, 0))), (6, .ptr (some (n + 3, 0)))] = ws
  have hkL := Keeps.push H2 (.loop 6300482 ws .ready none)
  have hL : Lop (H2.push (.loop 6300482 ws .ready none)) H2.n 6300482 ws .ready none := Lop.new
  have hll : n + 3 < H2.n := ht.c6.lt
  replace ht := ht.keeps hkL
  replace ga := ga.keeps hkL
  replace gb := gb.keeps hkL
  have hkA : Keeps H (H2.push (.loop 6300482 ws .ready none)) := (hk0.trans hk1).trans hkL
  have hlH : H.n ≤ H2.n := by have := hk1.n; omega
  generalize H2.n = l at hL hll hlH
  generalize H2.push (.loop 6300482 ws .ready none) = H3 at hL ht ga gb hkA
  have hs3 := hs.keeps hkA
  have hsp : ∀ b o, s.p = some (b, o) → b < H.n := by
    intro b o e
    have hs' : SlR H s 4 (p.map Ins.cs) := hs
    rcases hs'.mem with ⟨q1, _⟩ | ⟨b2, o2, _, _, q1, q2, _⟩
    · rw [q1] at e; cases e
    · rw [q1] at e; cases e; exact q2
  have hMs : ∀ b o, s.p = some (b, o) → ¬ (b = l ∨ b = n + 3) := fun b o e hh => by have := hsp b o e; omega
  refine wp_bnd (wp_clo h1 ?_)
  refine wp.mono (bound_From_1_wp (Mo := fun b => b = l ∨ b = n + 3)
    (J := fun j H' => Lop H' l 6300482 ws .ready none ∧ ∃ L, MK H' n s L ∧ L.length = 49 ∧ ∀ i, L.getD i false = true ↔ i < j ∧ Rch p a i)
    (X := fun _ => False) ga.get gb.get ga.lt gb.lt hs3 hf hc ha ?_ ?_ ?_ ?_) ?_
  · intro b hb
    have q1 := hL.lt; have q2 := ht.c6.lt
    rcases hb with rfl | rfl <;> omega
  · intro H' hk'
    refine ⟨hL.keeps hk', _, ht.keeps hk', by simp, fun i => ?_⟩
    rw [List.getD_eq_getElem?_getD, List.getElem?_replicate]
    split <;> simp
  · rintro j H' hj hbj ⟨q1, L, q2, q3, q4⟩
    refine ⟨q1, L, q2, q3, fun i => ?_⟩
    rw [q4]
    constructor
    · rintro ⟨a1, a2⟩; exact ⟨by omega, a2⟩
    · rintro ⟨a1, a2⟩
      refine ⟨?_, a2⟩
      by_cases e : i = j
      · subst e; rw [(seenL_get hj).2 a2] at hbj; cases hbj
      · omega
  · rintro j H' hj hbj hbut ⟨q1, L, q2, q3, q4⟩
    have hjl : j ≤ p.length := by rw [seenL_len] at hj; omega
    refine wp_rnd q1.get h2 (marked_round hws.symm hll q1 q2 q3 (hs3.but hbut hMs) hc hjl fun H8 hb8 ht8 hl8 => ?_)
    refine ⟨hb8, .inl ⟨rfl, hl8, _, ht8, by simpa using q3, fun i => ?_⟩⟩
    by_cases e : i = j
    · subst e
      rw [getD_set_self (by omega)]
      exact ⟨fun _ => ⟨by omega, (seenL_get hj).1 hbj⟩, fun _ => rfl⟩
    · rw [getD_set_ne e, q4]
      exact ⟨fun ⟨a1, a2⟩ => ⟨by omega, a2⟩, fun ⟨a1, a2⟩ => ⟨by omega, a2⟩⟩
  · rintro _ H8 ⟨hb8, ⟨q1, L, q2, q3, q4⟩ | hX⟩
    · refine wp_endL0 q1.get (by intro hh; cases hh) (wp_ret ?_)
      show wp _ _ _
      have hk8 : ∀ b, b < H.n → H8.get b = H.get b := fun b hb => by
        rw [hb8.get b (by have := hkA.n; omega) (by omega)]; exact hkA.get b hb
      have hn8 : H.n ≤ H8.n := Nat.le_trans hkA.n hb8.n
      have q5 := q2.ne (b := l) hll (.loop 6300482 ws .exhausted none)
      have hk9 : Keeps H (H8.set l (.loop 6300482 ws .exhausted none)) := ⟨hn8, fun b hb => by simp only [Heap.set]; rw [if_neg (by omega)]; exact hk8 b hb⟩
      generalize H8.set l (.loop 6300482 ws .exhausted none) = H9 at q5 hk9
      have hLm : (L.map HV.bool).length = 49 := by simpa using q3
      refine wp_nl (wp_ldNg q5.c6.get hLm (wp_gd (by rw [hLm]; rfl) ?_))
      refine wp_stNg q5.c4 (by rw [hLm]; simp) ?_
      have hk10 := hk9.set (b := n + 1) (by omega) (.cells (L.map HV.bool) false)
      have c5 := q5.c5.ne (b' := n + 1) (o := .cells (L.map HV.bool) false) (by omega)
      have c4 : (H9.set (n + 1) (.cells (L.map HV.bool) false)).get (n + 1) = .cells (L.map HV.bool) false := by simp [Heap.set]
      generalize H9.set (n + 1) (.cells (L.map HV.bool) false) = H10 at hk10 c5 c4
      refine wp_stcel c5 rfl ?_
      have c4' : (H10.set (n + 2) (.cells [.bool true] false)).get (n + 1) = .cells (L.map HV.bool) false := by simp only [Heap.set]; rw [if_neg (by omega)]; exact c4
      refine wp_ldNg c4' hLm (wp_ldcel (Cel.self c5.lt) (wp_asB (wp_rF2 ?_)))
      exact h _ L (hk10.set (b := n + 2) (by omega) _) q3 fun j => by
        rw [q4]
        exact ⟨fun ⟨_, a2⟩ => a2, fun a2 => ⟨by have := rch_le hc ha a2; omega, a2⟩⟩
    · exact hX.elim

/-- what a place leads to: itself, and what the next ones lead to. -/
theorem rch_on {p : List Ins} {a j : Nat} (ha : a < p.length) : Rch p a j ↔ j = a ∨ ∃ k : Nat, (k : Int) ∈ nextL p[a] a ∧ Rch p k j := by
  constructor
  · intro h
    induction h with
    | refl => exact .inl rfl
    | @step i j hi hr hm ih =>
      rcases ih with rfl | ⟨k, k1, k2⟩
      · exact .inr ⟨j, hm, .refl⟩
      · exact .inr ⟨k, k1, .step hi k2 hm⟩
  · rintro (rfl | ⟨k, k1, k2⟩)
    · exact .refl
    · induction k2 with
      | refl => exact .step ha .refl k1
      | step hi _ hm ih => exact .step hi ih hm
theorem bools_ext {L L' : List Bool} (h : L.length = L'.length) (hg : ∀ j, L.getD j false = true ↔ L'.getD j false = true) : L = L' := by
  refine List.ext_getElem h fun i h1 h2 => ?_
  have := hg i
  rw [getD_of h1, getD_of h2] at this
  rw [Bool.eq_iff_iff]; exact this
theorem eqSh_bools : ∀ {n : Nat} {L : List Bool}, L.length = n → eqSh (List.replicate n Sc.kb) (L.map HV.bool) (L.map HV.bool) = some true
  | 0, [], _ => rfl
  | n + 1, x :: L, h => by
    have ih := eqSh_bools (n := n) (L := L) (by simpa using h)
    rw [List.replicate_succ, List.map_cons]
    simp only [eqSh, ih]
    cases x <;> rfl
theorem wp_eqM {α : Type} {Q : α → Heap → Prop} {H : Heap} {sh : List Sc} {xs ys : List HV} {b : Bool} {f : Bool → M α} (he : eqSh sh xs ys = some b) (h : wp (f b) Q H) : wp (eqM sh xs ys f) Q H := by
  unfold eqM; rw [he]; exact h
theorem law27_BoundOn_wp {cl : List (Nat × Clo)} {rn : List (Nat × Rnd)} {D0 : DD} (h1 : lkA cl n_bound_From_1 = some f_bound_From_1) (h2 : lkA rn 6300482 = some r0_law27_marked) {H : Heap} {s : Sl} {p : List Ins} (hs : RProg H s p) (hf : ∀ x ∈ p, IFit x) (a : Int) :
    wp (f_law27_BoundOn (stepD cl rn (stepD cl rn D0)) [.sl s, I a]) Yes H := by
  unfold f_law27_BoundOn
  have hlen := hs.lenI
  repeat' (first | with_reducible refine wp_finF ?_ | with_reducible refine wp_uA ?_ | with_reducible refine wp_uI ?_ | with_reducible refine wp_uB ?_ | with_reducible refine wp_uL ?_ | with_reducible refine wp_uS ?_ | with_reducible refine wp_uP ?_ | with_reducible refine wp_uc ?_ | with_reducible refine wp_nl ?_ | with_reducible refine wp_asB ?_ | with_reducible refine wp_asI ?_ | with_reducible refine wp_asSl ?_ | with_reducible refine wp_asT ?_ | with_reducible refine wp_asA ?_ | with_reducible refine wp_asS ?_ | with_reducible refine wp_asP ?_ | with_reducible refine wp_nN ?_ | with_reducible refine wp_rN ?_ | with_reducible refine wp_xN ?_ | with_reducible refine wp_nB ?_ | with_reducible refine wp_rB ?_ | with_reducible refine wp_xB rfl ?_ | with_reducible refine wp_xB' rfl ?_ | with_reducible refine wp_bB ?_ | with_reducible refine wp_rX ?_ | with_reducible refine wp_xX ?_ | with_reducible refine wp_rE ?_ | with_reducible refine wp_xE ?_ | with_reducible refine wp_rR ?_ | with_reducible refine wp_xR ?_ | with_reducible refine wp_r0 ?_ | with_reducible refine wp_x0 ?_ | with_reducible refine wp_rF ?_ | with_reducible refine wp_rF0 ?_ | with_reducible refine wp_rF2 ?_ | with_reducible refine wp_rF3 ?_ | with_reducible refine wp_rF4 ?_ | with_reducible refine wp_condT ?_ | with_reducible refine wp_condF ?_ | with_reducible refine wp_condNT ?_ | with_reducible refine wp_condNF ?_)
  refine wp_bnd (law27_alive_wp fun H1 hk1 => wp_asB (wp_condNT ?_))
  have hs1 := hs.keeps hk1
  refine wp_jnP (¬ (CanB p ∧ 0 ≤ a ∧ a < p.length)) ?_ (fun hh => ?_) (fun hh => ?_)
  · refine wp_bnd (ref27_Can_wp hs1 fun z hz => wp_asB ?_)
    refine wp_condN (fun c => wp_bB ⟨fun _ hh => ?_, fun _ => rfl⟩) (fun c => ?_)
    · rw [hz.2 hh.1] at c; cases c
    · have hc := hz.1 c
      refine wp_condD (fun c => wp_bB ⟨fun _ hh => by omega, fun _ => rfl⟩) (fun c => wp_bB ?_)
      rw [decide_eq_true_eq]
      constructor
      · intro h1 h2; omega
      · intro h1
        apply Classical.byContradiction
        intro h2
        exact h1 ⟨hc, by omega, by omega⟩
  · repeat' (first | with_reducible refine wp_finF ?_ | with_reducible refine wp_uA ?_ | with_reducible refine wp_uI ?_ | with_reducible refine wp_uB ?_ | with_reducible refine wp_uL ?_ | with_reducible refine wp_uS ?_ | with_reducible refine wp_uP ?_ | with_reducible refine wp_uc ?_ | with_reducible refine wp_nl ?_ | with_reducible refine wp_asB ?_ | with_reducible refine wp_asI ?_ | with_reducible refine wp_asSl ?_ | with_reducible refine wp_asT ?_ | with_reducible refine wp_asA ?_ | with_reducible refine wp_asS ?_ | with_reducible refine wp_asP ?_ | with_reducible refine wp_nN ?_ | with_reducible refine wp_rN ?_ | with_reducible refine wp_xN ?_ | with_reducible refine wp_nB ?_ | with_reducible refine wp_rB ?_ | with_reducible refine wp_xB rfl ?_ | with_reducible refine wp_xB' rfl ?_ | with_reducible refine wp_bB ?_ | with_reducible refine wp_rX ?_ | with_reducible refine wp_xX ?_ | with_reducible refine wp_rE ?_ | with_reducible refine wp_xE ?_ | with_reducible refine wp_rR ?_ | with_reducible refine wp_xR ?_ | with_reducible refine wp_r0 ?_ | with_reducible refine wp_x0 ?_ | with_reducible refine wp_rF ?_ | with_reducible refine wp_rF0 ?_ | with_reducible refine wp_rF2 ?_ | with_reducible refine wp_rF3 ?_ | with_reducible refine wp_rF4 ?_ | with_reducible refine wp_condT ?_ | with_reducible refine wp_condF ?_ | with_reducible refine wp_condNT ?_ | with_reducible refine wp_condNF ?_)
    rfl
  · obtain ⟨hc, a0, a1⟩ := Classical.not_not.1 hh
    obtain ⟨k, rfl⟩ : ∃ k : Nat, a = k := ⟨a.toNat, by omega⟩
    have hk : k < p.length := by omega
    have h48 := hc.len
    repeat' (first | with_reducible refine wp_finF ?_ | with_reducible refine wp_uA ?_ | with_reducible refine wp_uI ?_ | with_reducible refine wp_uB ?_ | with_reducible refine wp_uL ?_ | with_reducible refine wp_uS ?_ | with_reducible refine wp_uP ?_ | with_reducible refine wp_uc ?_ | with_reducible refine wp_nl ?_ | with_reducible refine wp_asB ?_ | with_reducible refine wp_asI ?_ | with_reducible refine wp_asSl ?_ | with_reducible refine wp_asT ?_ | with_reducible refine wp_asA ?_ | with_reducible refine wp_asS ?_ | with_reducible refine wp_asP ?_ | with_reducible refine wp_nN ?_ | with_reducible refine wp_rN ?_ | with_reducible refine wp_xN ?_ | with_reducible refine wp_nB ?_ | with_reducible refine wp_rB ?_ | with_reducible refine wp_xB rfl ?_ | with_reducible refine wp_xB' rfl ?_ | with_reducible refine wp_bB ?_ | with_reducible refine wp_rX ?_ | with_reducible refine wp_xX ?_ | with_reducible refine wp_rE ?_ | with_reducible refine wp_xE ?_ | with_reducible refine wp_rR ?_ | with_reducible refine wp_xR ?_ | with_reducible refine wp_r0 ?_ | with_reducible refine wp_x0 ?_ | with_reducible refine wp_rF ?_ | with_reducible refine wp_rF0 ?_ | with_reducible refine wp_rF2 ?_ | with_reducible refine wp_rF3 ?_ | with_reducible refine wp_rF4 ?_ | with_reducible refine wp_condT ?_ | with_reducible refine wp_condF ?_ | with_reducible refine wp_condNT ?_ | with_reducible refine wp_condNF ?_)
    refine wp_bnd (law27_marked_wp h1 h2 hs1 hf hc (a := k) (by omega) fun H2 L hk2 hL hg => wp_asT (wp_uA (wp_uB (wp_nl ?_))))
    have hLm : (L.map HV.bool).length = 49 := by simpa using hL
    refine wp_gd (by rw [hLm]; rfl) (wp_gd (by rw [hLm]; simp) (wp_condNT (wp_gdD (by omega) (wp_gdD (by omega) (wp_gdD (by simp; omega) ?_)))))
    have hs2 := hs1.keeps hk2
    rw [putN_full (by rw [hLm]; simp)]
    refine wp_bnd (bound_Next_wp hs2 hf (fun _ k' e hk' t H3 hk3 hr => ?_) (fun hn => absurd ⟨hc, a0, a1⟩ hn))
    have e : k' = k := by omega
    subst e
    refine wp_asSl ?_
    have hrl := hr.lenI
    have hr2 := nextL_two p[k'] k'
    have hrg := fun z hz => nextL_range hc hk' (k := z) hz
    have hs3 := hs2.keeps hk3
    generalize hN : nextL p[k'] k' = N at hr hrl hr2 hrg
    have e0 : List.set (List.replicate 49 (HV.bool false)) (0 + (k' : Int).toNat * 1) (.bool true) = ((List.replicate 49 false).set k' true).map HV.bool := by
      rw [Int.toNat_natCast, Nat.zero_add, Nat.mul_one, List.map_set, List.map_replicate]
    rw [e0, hrl]
    refine wp_blk ?_
    refine wp_loop (fun m vs H' => ∃ (i : Nat) (S : List Bool), m + i = N.length ∧ vs = [I (i : Int), .agg (S.map HV.bool)] ∧ S.length = 49 ∧ Keeps H3 H' ∧ ∀ j, S.getD j false = true ↔ j = k' ∨ ∃ x : Nat, (x : Int) ∈ N.take i ∧ Rch p x j) N.length
      ⟨0, _, by omega, rfl, by simp, Keeps.refl _, fun j => ?_⟩ ?_
    · by_cases e : j = k'
      · subst e; rw [getD_set_self (by simp; omega)]; simp
      · rw [getD_set_ne e, List.getD_eq_getElem?_getD, List.getElem?_replicate]
        simp only [List.take_zero, List.not_mem_nil, false_and, exists_false, or_false]
        constructor
        · intro hh; split at hh <;> cases hh
        · intro hh; exact absurd hh e
    rintro m vs H4 ⟨i, S, hmi, rfl, hS, hk4, hgS⟩
    have hSm : (S.map HV.bool).length = 49 := by simpa using hS
    refine wp_uI (wp_uA (wp_nl (wp_condD (fun hi => ?_) (fun hi => ?_))))
    · have hi' : i < N.length := by omega
      have hwi : wr ((i : Int) + 1) = ((i + 1 : Nat) : Int) := by rw [wr_small (by omega) (by omega)]; rfl
      refine wp_atI (hr.keeps hk4) hi' fun _ _ => wp_asI ?_
      obtain ⟨q1, q2⟩ := hrg _ (List.getElem_mem hi')
      obtain ⟨x, hx⟩ : ∃ x : Nat, N[i] = (x : Int) := ⟨N[i].toNat, by omega⟩
      rw [hx]
      refine wp_bnd (law27_marked_wp h1 h2 (hs3.keeps hk4) hf hc (a := x) (by omega) fun H5 L2 hk5 hL2 hg2 => wp_asT (wp_uA (wp_uB (wp_nl ?_))))
      have hL2m : (L2.map HV.bool).length = 49 := by simpa using hL2
      refine wp_gd (by rw [hL2m]; rfl) (wp_gd (by rw [hL2m]; simp) (wp_condNT ?_))
      rw [putN_full (by rw [hL2m]; simp)]
      refine wp_blk ?_
      refine wp_loop (fun m2 vs H' => H' = H5 ∧ ∃ (u : Nat) (T : List Bool), m2 + u = 49 ∧ vs = [I (u : Int), .agg (T.map HV.bool)] ∧ T.length = 49 ∧ ∀ j, T.getD j false = true ↔ S.getD j false = true ∨ (j < u ∧ L2.getD j false = true)) 49
        ⟨rfl, 0, S, by omega, rfl, hS, fun j => by simp⟩ ?_
      rintro m2 vs H6 ⟨rfl, u, T, hmu, rfl, hT, hgT⟩
      have hTm : (T.map HV.bool).length = 49 := by simpa using hT
      refine wp_uI (wp_uA (wp_nl (wp_condD (fun hu => ?_) (fun hu => ?_))))
      · have hu' : u < T.length := by omega
        have hu2 : u < L2.length := by omega
        have hwu : wr ((u : Int) + 1) = ((u + 1 : Nat) : Int) := by rw [wr_small (by omega) (by omega)]; rfl
        have fin : ∀ v : Bool, v = (T[u] || L2[u]) → wp (ret (Leaf.norm [.agg (List.set (T.map HV.bool) (0 + (u : Int).toNat * 1) (.bool v))])) (PBlk 3 (PLoop (fun m2 vs H' => H' = H6 ∧ ∃ (u : Nat) (T : List Bool), m2 + u = 49 ∧ vs = [I (u : Int), .agg (T.map HV.bool)] ∧ T.length = 49 ∧ ∀ j, T.getD j false = true ↔ S.getD j false = true ∨ (j < u ∧ L2.getD j false = true)) m2 (PBlk 2 (PLoop (fun m vs H' => ∃ (i : Nat) (S : List Bool), m + i = N.length ∧ vs = [I (i : Int), .agg (S.map HV.bool)] ∧ S.length = 49 ∧ Keeps H3 H' ∧ ∀ j, S.getD j false = true ↔ j = k' ∨ ∃ x : Nat, (x : Int) ∈ N.take i ∧ Rch p x j) m (PBlk 0 (PFin Yes) fun vs_1 => uA vs_1 fun y7_4 r_18 => nl r_18 (gxN (L.map HV.bool) 0 49 fun x69l => gxN y7_4 0 49 fun x70l => eqM (List.replicate 49 (Sc.kb)) x69l x70l fun x71e => ret (.ret [.bool x71e])))) fun vs_3 => uA vs_3 fun y7_3 r_17 => nl r_17 (ret (.norm [I (wr ((i : Int) + 1)), .agg y7_3])))) fun vs_5 => uA vs_5 fun y7_2 r_16 => nl r_16 (ret (.norm [I (wr ((u : Int) + 1)), .agg y7_2]))) H6 := by
          rintro v rfl
          refine wp_ret ?_
          show wp _ _ _
          refine wp_uA (wp_nl (wp_ret ?_))
          refine ⟨m2 - 1, by omega, rfl, u + 1, T.set u (T[u] || L2[u]), by omega, ?_, by simpa using hT, fun j => ?_⟩
          · rw [hwu, set_map T (i := u) (by omega)]
          · by_cases e : j = u
            · subst e
              rw [getD_set_self hu', Bool.or_eq_true, ← getD_of hu', ← getD_of hu2, hgT]
              constructor
              · rintro ((h | ⟨h, _⟩) | h)
                · exact .inl h
                · omega
                · exact .inr ⟨by omega, h⟩
              · rintro (h | ⟨_, h⟩)
                · exact .inl (.inl h)
                · exact .inr h
            · rw [getD_set_ne e, hgT]
              constructor
              · rintro (h | ⟨h, h'⟩)
                · exact .inl h
                · exact .inr ⟨by omega, h'⟩
              · rintro (h | ⟨h, h'⟩)
                · exact .inl h
                · exact .inr ⟨by omega, h'⟩
        refine wp_blk ?_
        refine wp_gdD (by omega) (wp_gdD (by omega) (wp_gxB (i := u) (by omega) hu' (wp_asB (wp_cond (fun c => ?_) (fun c => ?_)))))
        · refine wp_gdD (by omega) (wp_gdD (by omega) (wp_gdD (by rw [hTm]; omega) ?_))
          exact fin true (by rw [c]; rfl)
        · refine wp_gdD (by omega) (wp_gdD (by omega) (wp_gxB (i := u) (by omega) hu2 (wp_asB (wp_gdD (by omega) (wp_gdD (by omega) (wp_gdD (by rw [hTm]; omega) ?_))))))
          exact fin _ (by rw [c]; rfl)
      · have hu' : u = 49 := by omega
        subst hu'
        refine wp_ret ?_
        show wp _ _ _
        refine wp_uA (wp_nl (wp_ret ?_))
        refine ⟨m - 1, by omega, i + 1, T, by omega, by rw [hwi], hT, hk4.trans hk5, fun j => ?_⟩
        rw [hgT, hgS, List.take_succ_eq_append_getElem hi', hg2, hx]
        constructor
        · rintro ((h | ⟨y, y1, y2⟩) | ⟨_, h⟩)
          · exact .inl h
          · exact .inr ⟨y, List.mem_append.2 (.inl y1), y2⟩
          · exact .inr ⟨x, List.mem_append.2 (.inr (by simp)), h⟩
        · rintro (h | ⟨y, y1, y2⟩)
          · exact .inl (.inl h)
          · rcases List.mem_append.1 y1 with y1 | y1
            · exact .inl (.inr ⟨y, y1, y2⟩)
            · have : y = x := by simp at y1; omega
              subst this
              exact .inr ⟨by have := rch_le hc (by omega) y2; omega, y2⟩
    · have hi' : i = N.length := by omega
      subst hi'
      refine wp_ret ?_
      show wp _ _ _
      refine wp_uA (wp_nl (wp_gxAll hLm (wp_gxAll hSm ?_)))
      have hLS : L = S := by
        refine bools_ext (by omega) fun j => ?_
        rw [hg, hgS, List.take_length]
        have := rch_on (p := p) (a := k') (j := j) hk'
        rw [this, hN]
      subst hLS
      refine wp_eqM (eqSh_bools hL) (wp_rF ?_)
      rfl
end Go.Proofs.Ytolchnaegifckaa.HP
