/- What the document's Of (scope) computes. Conditions: none (lemmas). -/
import Derived.Test.YtolchnaegifckaaHQPc
namespace Go.Proofs.Ytolchnaegifckaa.HQ
open Go

/-- places that were set. -/
structure PW (L T : List Bool) (A : Nat → Prop) : Prop where
  len : T.length = 57
  at_ : ∀ x, T.getD x false = true ↔ L.getD x false = true ∨ A x
theorem PW.set {L T : List Bool} {A : Nat → Prop} (h : PW L T A) {e : Nat} (he : e < 57) {v : Bool} {nb : Prop} (hv : v = true ↔ T.getD e false = true ∨ nb) : PW L (T.set e v) (fun x => A x ∨ (x = e ∧ nb)) := by
  refine ⟨by simpa using h.len, fun x => ?_⟩
  by_cases hx : x = e
  · subst hx
    rw [getD_set_self (by rw [h.len]; exact he), hv, h.at_]
    constructor
    · rintro ((h | h) | h)
      · exact .inl h
      · exact .inr (.inl h)
      · exact .inr (.inr ⟨rfl, h⟩)
    · rintro (h | h | ⟨_, h⟩)
      · exact .inl (.inl h)
      · exact .inl (.inr h)
      · exact .inr h
  · rw [getD_set_ne hx, h.at_]; simp [hx]
end Go.Proofs.Ytolchnaegifckaa.HQ
namespace Go.Proofs.Ytolchnaegifckaa.HQ
open Go

theorem Beg.of {p : List Ins} {k e : Nat} (hc : CanB p) (he : EndAt p k e) : Beg p (k : Int) := ⟨hc, k, rfl, Nat.lt_trans he.lt he.le, he.b _⟩
/-- the iterator over blocks: each Begin, with its scope. -/
theorem scope_All_1_wp {cl : List (Nat × Clo)} {rn : List (Nat × Rnd)} {D0 : DD} (h1 : lkA cl n_bound_From_1 = some f_bound_From_1) (h2 : lkA rn 82468377 = some r0_scope_Of) {Hs : Heap} {l b : Nat} {s : Sl} {p : List Ins} {Mo : Nat → Prop} {J : Nat → Heap → Prop} {X : Heap → Prop}
    (hb : Hs.get b = .cells [.sl s] false) (hbn : b < Hs.n) (hbM : ¬ Mo b) (hs : RProg Hs s p) (hsM : ∀ b o, s.p = some (b, o) → ¬ Mo b) (hf : ∀ x ∈ p, IFit x)
    (hJk : ∀ j H H', Keeps H H' → J j H → J j H') (h0 : J 0 Hs) (hskip : ∀ j H, j < p.length → ¬ Beg p (j : Int) → J j H → J (j + 1) H)
    (hround : ∀ j H1 e S, j < p.length → CanB p → EndAt p j e → ScoI p j e S → But Mo Hs H1 → J j H1 →
      wp (stepD cl rn (stepD cl rn D0) (.yld l) [I j, .agg S.cells]) (fun r H2 => But Mo H1 H2 ∧ ((r = .bool true ∧ J (j + 1) H2) ∨ (r = .bool false ∧ X H2))) H1) :
    wp (f_scope_All_1 (stepD cl rn (stepD cl rn D0)) ([] ++ [.yld l] ++ [.ptr (some (b, 0))])) (fun _ H' => But Mo Hs H' ∧ (J p.length H' ∨ X H')) Hs := by
  show wp (f_scope_All_1 _ [.yld l, .ptr (some (b, 0))]) _ _
  unfold f_scope_All_1
  have hlt := hs.lt
  have hlen := hs.lenI
  refine wp_finF (wp_uc (wp_uP (wp_nl ?_)))
  show wp (mP (some (b, 0)) _) _ _
  rw [mP_eq']
  refine wp_ldCg hb rfl (wp_asSl ?_)
  rw [hlen]
  refine wp_blk ?_
  refine wp_loop (fun k vs H' => ∃ j : Nat, k + j = p.length ∧ vs = [I (j : Int)] ∧ But Mo Hs H' ∧ J j H') p.length ⟨0, by omega, rfl, But.refl _ _, h0⟩ ?_
  rintro k vs H1 ⟨j, hk, rfl, hb1, hJ⟩
  refine wp_uI (wp_nl (wp_condD (fun hj => ?_) (fun hj => ?_)))
  · have hj' : j < p.length := by omega
    have hw : wr ((j : Int) + 1) = ((j + 1 : Nat) : Int) := by rw [wr_small (by omega) (by omega)]; rfl
    rw [hw]
    show wp (mP (some (b, 0)) _) _ _
    rw [mP_eq']
    refine wp_ldCg (by rw [hb1.get b hbn hbM]; exact hb) rfl (wp_asSl ?_)
    refine wp_bnd (scope_Of_wp h1 h2 (hs.but hb1 hsM) hf (fun k' hk' hc e he S H2 hk2 hS => ?_) (fun hn H2 hk2 => ?_))
    · have : k' = j := by omega
      subst this
      refine wp_asT (wp_uA (wp_uB (wp_nl (wp_gd rfl (wp_gd rfl (wp_jn (wp_condT ?_)))))))
      rw [putN_full (by rw [cells_len]; rfl)]
      refine wp_gxAll rfl (wp_bnd ?_)
      refine (hround k' H2 e S hj' hc he hS (hb1.trans hk2.but) (hJk _ _ _ hk2 hJ)).mono ?_
      rintro r H3 ⟨hb3, ⟨rfl, hJ3⟩ | ⟨rfl, hX⟩⟩
      · refine wp_asB (wp_ret ?_)
        show wp _ _ _
        refine wp_uB (wp_nl (wp_condF (wp_ret ?_)))
        exact ⟨k - 1, by omega, k' + 1, by omega, rfl, (hb1.trans hk2.but).trans hb3, hJ3⟩
      · refine wp_asB (wp_ret ?_)
        show wp _ _ _
        refine wp_uB (wp_nl (wp_condT (wp_ret ?_)))
        exact ⟨(hb1.trans hk2.but).trans hb3, .inr hX⟩
    · refine wp_asT (wp_uA (wp_uB (wp_nl (wp_gd rfl (wp_gd rfl (wp_jn (wp_condF (wp_ret ?_))))))))
      show wp _ _ _
      refine wp_uB (wp_nl (wp_condF (wp_ret ?_)))
      exact ⟨k - 1, by omega, j + 1, by omega, rfl, hb1.trans hk2.but, hskip j _ hj' hn (hJk _ _ _ hk2 hJ)⟩
  · have : j = p.length := by omega
    subst this
    refine wp_ret ?_
    show wp _ _ _
    exact wp_nl (wp_rF0 ⟨hb1, .inl hJ⟩)
theorem scope_All_wp {D : DD} {H : Heap} {Q : HV → Heap → Prop} {s : Sl} (h : Q (.func n_scope_All_1 [] [.ptr (some (H.n, 0))]) (H.push (.cells [.sl s] false))) : wp (f_scope_All D [.sl s]) Q H := by
  unfold f_scope_All
  with_reducible repeat' (first | refine wp_finF ?_ | refine wp_uA ?_ | refine wp_uI ?_ | refine wp_uB ?_ | refine wp_uL ?_ | refine wp_uS ?_ | refine wp_uP ?_ | refine wp_uc ?_ | refine wp_nl ?_ | refine wp_asB ?_ | refine wp_asI ?_ | refine wp_asSl ?_ | refine wp_asT ?_ | refine wp_asA ?_ | refine wp_asS ?_ | refine wp_asP ?_ | refine wp_nN ?_ | refine wp_rN ?_ | refine wp_xN ?_ | refine wp_nB ?_ | refine wp_rB ?_ | refine wp_xB rfl ?_ | refine wp_xB' rfl ?_ | refine wp_bB ?_ | refine wp_rX ?_ | refine wp_xX ?_ | refine wp_rE ?_ | refine wp_xE ?_ | refine wp_rR ?_ | refine wp_xR ?_ | refine wp_r0 ?_ | refine wp_x0 ?_ | refine wp_rF ?_ | refine wp_rF0 ?_ | refine wp_rF2 ?_ | refine wp_rF3 ?_ | refine wp_rF4 ?_ | refine wp_condT ?_ | refine wp_condF ?_ | refine wp_condNT ?_ | refine wp_condNF ?_)
  refine wp_nw (wp_rF ?_)
  exact h
end Go.Proofs.Ytolchnaegifckaa.HQ
