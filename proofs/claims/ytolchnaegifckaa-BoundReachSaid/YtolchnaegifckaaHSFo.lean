/- From goes over all places to which ways lead; law27.marked. Conditions: the program can be, and the place is one (lemmas). -/
import Derived.Test.YtolchnaegifckaaHSEj
namespace Go.Proofs.Ytolchnaegifckaa.HS
open Go

/-- the iterator: it yields the places to which ways lead. -/
theorem bound_From_1_wp {D : DD} {Hs : Heap} {l b b' : Nat} {s : Sl} {p : List Ins} {a : Nat} {Mo : Nat → Prop} {J : Nat → Heap → Prop} {X : Heap → Prop} (hb : Hs.get b = .cells [.sl s] false) (hb' : Hs.get b' = .cells [I (a : Int)] false) (hbn : b < Hs.n) (hbn' : b' < Hs.n) (hs : RProg Hs s p) (hf : ∀ x ∈ p, IFit x)
    (hc : CanB p) (ha : a ≤ p.length) (hM : ∀ b, Mo b → b < Hs.n) (h0 : ∀ H', Keeps Hs H' → J 0 H') (hskip : ∀ j H, (hj : j < (seenL p a).length) → (seenL p a)[j] = false → J j H → J (j + 1) H)
    (hround : ∀ j H1, (hj : j < (seenL p a).length) → (seenL p a)[j] = true → But Mo Hs H1 → J j H1 → wp (D (.yld l) [I j]) (fun r H2 => But Mo H1 H2 ∧ ((r = .bool true ∧ J (j + 1) H2) ∨ (r = .bool false ∧ X H2))) H1) :
    wp (f_bound_From_1 D ([] ++ [.yld l] ++ [.ptr (some (b, 0)), .ptr (some (b', 0))])) (fun _ H' => But Mo Hs H' ∧ (J (p.length + 1) H' ∨ X H')) Hs := by
  show wp (f_bound_From_1 D [.yld l, .ptr (some (b, 0)), .ptr (some (b', 0))]) _ _
  unfold f_bound_From_1
  have hlen := hs.lenI
  refine wp_finF (wp_uc (wp_uP (wp_uP (wp_nl ?_))))
  refine wp_jn ?_
  show wp (mP (some (b, 0)) _) _ _
  rw [mP_eq']
  refine wp_ldCg hb rfl (wp_asSl ?_)
  refine wp_bnd (bound_can_wp hs hf fun z H1 hk1 hz => wp_asB ?_)
  have : z = true := hz.2 hc
  subst this
  have g1 : H1.get b = .cells [.sl s] false := by rw [hk1.get b hbn]; exact hb
  have g2 : H1.get b' = .cells [I (a : Int)] false := by rw [hk1.get b' hbn']; exact hb'
  refine wp_condNT ?_
  show wp (mP (some (b', 0)) _) _ _
  rw [mP_eq']
  refine wp_ldCg g2 rfl (wp_asI (wp_condD (fun c => by omega) (fun _ => ?_)))
  show wp (mP (some (b', 0)) _) _ _
  rw [mP_eq']
  refine wp_ldCg g2 rfl (wp_asI ?_)
  show wp (mP (some (b, 0)) _) _ _
  rw [mP_eq']
  refine wp_ldCg g1 rfl (wp_asSl (wp_ret ?_))
  show wp _ _ _
  refine wp_uB (wp_nl (wp_condD (fun c => by omega) (fun _ => ?_)))
  show wp (mP (some (b, 0)) _) _ _
  rw [mP_eq']
  refine wp_ldCg g1 rfl (wp_asSl ?_)
  show wp (mP (some (b', 0)) _) _ _
  rw [mP_eq']
  refine wp_ldCg g2 rfl (wp_asI ?_)
  refine wp_bnd (bound_seen_wp (hs.keeps hk1) hc ha fun b2 H2 hk2 hb2 hB => wp_asSl ?_)
  have hk := hk1.trans hk2
  have hn1 := hk1.n
  have hl := seenL_len p a
  have hR := hB.rows
  rw [hl] at hR
  refine wp_blk (wp.mono (wp_iterB (J := J) (X := X) (bs := seenL p a) hR hk.but (fun b o e hm => ?_) (h0 H2 hk) hskip hround rfl) ?_)
  · simp only [numSl, Option.some.injEq, Prod.mk.injEq] at e
    have := hM b hm; omega
  · rintro lf H3 ⟨hb3, ⟨rfl, hJ⟩ | ⟨rfl, hX⟩⟩
    · show wp _ _ _
      rw [hl] at hJ
      exact wp_nl (wp_rF0 ⟨hb3, .inl hJ⟩)
    · exact ⟨hb3, .inr hX⟩
theorem bound_From_wp {D : DD} {H : Heap} {Q : HV → Heap → Prop} {s : Sl} {a : Int} (h : Q (.func n_bound_From_1 [] [.ptr (some (H.n, 0)), .ptr (some (H.n + 1, 0))]) ((H.push (.cells [.sl s] false)).push (.cells [I a] false))) : wp (f_bound_From D [.sl s, I a]) Q H := by
  unfold f_bound_From
  with_reducible repeat' (first | refine wp_finF ?_ | refine wp_uA ?_ | refine wp_uI ?_ | refine wp_uB ?_ | refine wp_uL ?_ | refine wp_uS ?_ | refine wp_uP ?_ | refine wp_uc ?_ | refine wp_nl ?_ | refine wp_asB ?_ | refine wp_asI ?_ | refine wp_asSl ?_ | refine wp_asT ?_ | refine wp_asA ?_ | refine wp_asS ?_ | refine wp_asP ?_ | refine wp_nN ?_ | refine wp_rN ?_ | refine wp_xN ?_ | refine wp_nB ?_ | refine wp_rB ?_ | refine wp_xB rfl ?_ | refine wp_xB' rfl ?_ | refine wp_bB ?_ | refine wp_rX ?_ | refine wp_xX ?_ | refine wp_rE ?_ | refine wp_xE ?_ | refine wp_rR ?_ | refine wp_xR ?_ | refine wp_r0 ?_ | refine wp_x0 ?_ | refine wp_rF ?_ | refine wp_rF0 ?_ | refine wp_rF2 ?_ | refine wp_rF3 ?_ | refine wp_rF4 ?_ | refine wp_condT ?_ | refine wp_condF ?_ | refine wp_condNT ?_ | refine wp_condNF ?_)
  refine wp_nw (wp_nw (wp_rF ?_))
  exact h

/-- what law27.marked keeps in memory. -/
structure MK (H : Heap) (n : Nat) (s : Sl) (L : List Bool) : Prop where
  c2 : Cel H n (.sl s)
  c4 : H.get (n + 1) = .cells (List.replicate 49 (HV.bool false)) false
  l4 : n + 1 < H.n
  c5 : Cel H (n + 2) (.bool false)
  c6 : Bools H (n + 3) L
theorem MK.keeps {H H' : Heap} {n : Nat} {s : Sl} {L : List Bool} (h : MK H n s L) (k : Keeps H H') : MK H' n s L :=
  ⟨h.c2.keeps k, by rw [k.get _ h.l4]; exact h.c4, Nat.lt_of_lt_of_le h.l4 k.n, h.c5.keeps k, h.c6.keeps k⟩
theorem MK.ne {H : Heap} {n : Nat} {s : Sl} {L : List Bool} (h : MK H n s L) {b : Nat} (hb : n + 3 < b) (o : HObj) : MK (H.set b o) n s L :=
  ⟨h.c2.ne (by omega), by simp only [Heap.set]; rw [if_neg (by omega)]; exact h.c4, h.l4, h.c5.ne (by omega), ⟨h.c6.lt, by simp only [Heap.set]; rw [if_neg (by omega)]; exact h.c6.get, h.c6.len⟩⟩
theorem MK.mark {H : Heap} {n : Nat} {s : Sl} {L : List Bool} (h : MK H n s L) (i : Nat) : MK (H.set (n + 3) (.cells ((L.map HV.bool).set i (.bool true)) false)) n s (L.set i true) :=
  ⟨h.c2.ne (by omega), by simp only [Heap.set]; rw [if_neg (by omega)]; exact h.c4, h.l4, h.c5.ne (by omega), h.c6.set i true⟩

end Go.Proofs.Ytolchnaegifckaa.HS
