/- One block behind another: models, what goes out stays small. Conditions: the program can be (lemmas). -/
import Derived.Test.YtijppadieomnjaaHTSk
import Derived.KernelRfl
namespace Go.Proofs.Ytijppadieomnjaa.HT
open Go

def OutB (N k : Nat) (o : Lo) : Prop := ∀ i, i < 3 → (o.out i).size ≤ N + k ∧ (o.la i).size ≤ k
theorem OutB.up {N k : Nat} {o : Lo} (h : OutB N k o) : OutB N (k + 1) o := fun i hi => by have := h i hi; omega
end Go.Proofs.Ytijppadieomnjaa.HT
namespace Go.Proofs.Ytijppadieomnjaa.HT
open Go

/-- one thing that one of both writes and the other touches. -/
def ClAt (S S' : Sco) (k i : Nat) : Prop := (S.w k).getLsbD i = true ∧ ((S'.r k).getLsbD i = true ∨ (S'.w k).getLsbD i = true) ∨ (S'.w k).getLsbD i = true ∧ (S.r k).getLsbD i = true
def ClP (S S' : Sco) : Prop := ∃ k, k < 3 ∧ ∃ i, i < 8 ∧ ClAt S S' k i
def MeK (f g : Nat → BitVec 8) (k : Nat) : Prop := ∃ i, i < 8 ∧ (f k).getLsbD i = true ∧ (g k).getLsbD i = true
def MeP (f g : Nat → BitVec 8) : Prop := ∃ k, k < 3 ∧ MeK f g k
theorem and_ne (a b : BitVec 8) : (((a &&& b).toNat : Int) != 0) = true ↔ ∃ i, i < 8 ∧ a.getLsbD i = true ∧ b.getLsbD i = true := by
  constructor
  · intro h
    apply Classical.byContradiction
    intro hn
    have : a &&& b = 0#8 := by
      apply BitVec.eq_of_getLsbD_eq
      intro i hi
      rw [BitVec.getLsbD_and]
      cases ha : a.getLsbD i
      · simp
      · cases hb : b.getLsbD i
        · simp
        · exact absurd ⟨i, hi, ha, hb⟩ hn
    rw [this] at h; simp at h
  · rintro ⟨i, hi, ha, hb⟩
    rw [bne_iff_ne]; intro h0
    have h1 : (a &&& b).toNat = 0 := by omega
    have h2 : a &&& b = 0#8 := BitVec.eq_of_toNat_eq (by simpa using h1)
    have h3 := congrArg (fun x => x.getLsbD i) h2
    simp [ha, hb] at h3
theorem meP_clP (S S' : Sco) : (MeP S.w S'.w ∨ MeP S.w S'.r ∨ MeP S'.w S.r) ↔ ClP S S' := by
  constructor
  · rintro (⟨k, hk, i, hi, h1, h2⟩ | ⟨k, hk, i, hi, h1, h2⟩ | ⟨k, hk, i, hi, h1, h2⟩)
    · exact ⟨k, hk, i, hi, .inl ⟨h1, .inr h2⟩⟩
    · exact ⟨k, hk, i, hi, .inl ⟨h1, .inl h2⟩⟩
    · exact ⟨k, hk, i, hi, .inr ⟨h1, h2⟩⟩
  · rintro ⟨k, hk, i, hi, ⟨h1, h2 | h2⟩ | ⟨h1, h2⟩⟩
    · exact .inr (.inl ⟨k, hk, i, hi, h1, h2⟩)
    · exact .inl ⟨k, hk, i, hi, h1, h2⟩
    · exact .inr (.inr ⟨k, hk, i, hi, h1, h2⟩)
theorem clP_symm (S S' : Sco) : ClP S S' ↔ ClP S' S := by
  have key : ∀ S S', ClP S S' → ClP S' S := by
    rintro S S' ⟨k, hk, i, hi, ⟨h1, h2 | h2⟩ | ⟨h1, h2⟩⟩
    · exact ⟨k, hk, i, hi, .inr ⟨h1, h2⟩⟩
    · exact ⟨k, hk, i, hi, .inl ⟨h2, .inr h1⟩⟩
    · exact ⟨k, hk, i, hi, .inl ⟨h1, .inl h2⟩⟩
  exact ⟨key _ _, key _ _⟩
theorem scope_Meets_wp {D : HV → List HV → M HV} {H : Heap} {Q : HV → Heap → Prop} {f g : Nat → BitVec 8} (h : ∀ b : Bool, (b = true ↔ MeP f g) → Q (.bool b) H) :
    wp (f_scope_Things_Meets D [.agg [U8 (f 0), U8 (f 1), U8 (f 2)], .agg [U8 (g 0), U8 (g 1), U8 (g 2)]]) Q H := by
  unfold f_scope_Things_Meets
  with_reducible repeat' (first | refine wp_finF ?_ | refine wp_uA ?_ | refine wp_uI ?_ | refine wp_uB ?_ | refine wp_uL ?_ | refine wp_uS ?_ | refine wp_uP ?_ | refine wp_uc ?_ | refine wp_nl ?_ | refine wp_asB ?_ | refine wp_asI ?_ | refine wp_asSl ?_ | refine wp_asT ?_ | refine wp_asA ?_ | refine wp_asS ?_ | refine wp_asP ?_ | refine wp_nN ?_ | refine wp_rN ?_ | refine wp_xN ?_ | refine wp_nB ?_ | refine wp_rB ?_ | refine wp_xB rfl ?_ | refine wp_xB' rfl ?_ | refine wp_bB ?_ | refine wp_rX ?_ | refine wp_xX ?_ | refine wp_rE ?_ | refine wp_xE ?_ | refine wp_rR ?_ | refine wp_xR ?_ | refine wp_r0 ?_ | refine wp_x0 ?_ | refine wp_rF ?_ | refine wp_rF0 ?_ | refine wp_rF2 ?_ | refine wp_rF3 ?_ | refine wp_rF4 ?_ | refine wp_condT ?_ | refine wp_condF ?_ | refine wp_condNT ?_ | refine wp_condNF ?_)
  refine wp_loop0 3 (by omega) rfl (fun _ => rfl) rfl (fun k => ∀ k', k' < k → ¬ MeK f g k') (fun _ h => by omega) ?_ ?_
  · intro k hk hP
    refine wp_gdD (by omega) (wp_gdD (by omega) (wp_gxg (v := U8 (f k)) (by rcases lt3 hk with rfl | rfl | rfl <;> rfl) (wp_asI ?_)))
    refine wp_gdD (by omega) (wp_gdD (by omega) (wp_gxg (v := U8 (g k)) (by rcases lt3 hk with rfl | rfl | rfl <;> rfl) (wp_asI ?_)))
    rw [u8_of, u8_of, u8_wrap]
    refine wp_cond (fun c => wp_r0 (wp_rB (wp_rF (h true ⟨fun _ => ⟨k, hk, (and_ne _ _).1 c⟩, fun _ => rfl⟩)))) (fun c => wp_n0 fun k' hk' => ?_)
    by_cases e : k' = k
    · subst e
      exact fun hh => by rw [(and_ne _ _).2 hh] at c; cases c
    · exact hP k' (by omega)
  · intro hP
    exact wp_nl (wp_rF (h false ⟨fun hh => (by cases hh), fun ⟨k, hk, hh⟩ => absurd hh (hP k hk)⟩))

theorem scope_Clash_wp {D : HV → List HV → M HV} {H : Heap} {Q : HV → Heap → Prop} {S S' : Sco} (h : ∀ b : Bool, (b = true ↔ ClP S S') → Q (.bool b) H) :
    wp (f_scope_Clash D [.agg S.cells, .agg S'.cells]) Q H := by
  have l1 := cells_len S
  have l2 := cells_len S'
  unfold f_scope_Clash
  with_reducible repeat' (first | refine wp_finF ?_ | refine wp_uA ?_ | refine wp_uI ?_ | refine wp_uB ?_ | refine wp_uL ?_ | refine wp_uS ?_ | refine wp_uP ?_ | refine wp_uc ?_ | refine wp_nl ?_ | refine wp_asB ?_ | refine wp_asI ?_ | refine wp_asSl ?_ | refine wp_asT ?_ | refine wp_asA ?_ | refine wp_asS ?_ | refine wp_asP ?_ | refine wp_nN ?_ | refine wp_rN ?_ | refine wp_xN ?_ | refine wp_nB ?_ | refine wp_rB ?_ | refine wp_xB rfl ?_ | refine wp_xB' rfl ?_ | refine wp_bB ?_ | refine wp_rX ?_ | refine wp_xX ?_ | refine wp_rE ?_ | refine wp_xE ?_ | refine wp_rR ?_ | refine wp_xR ?_ | refine wp_r0 ?_ | refine wp_x0 ?_ | refine wp_rF ?_ | refine wp_rF0 ?_ | refine wp_rF2 ?_ | refine wp_rF3 ?_ | refine wp_rF4 ?_ | refine wp_condT ?_ | refine wp_condF ?_ | refine wp_condNT ?_ | refine wp_condNF ?_)
  refine wp_jnP (ClP S S') ?_ (fun hh => wp_uB (wp_nl (wp_rF (h true (by simp [hh]))))) (fun hh => wp_uB (wp_nl (wp_rF (h false (by simp [hh])))))
  refine wp_gxE (l := [U8 (S.w 0), U8 (S.w 1), U8 (S.w 2)]) (by omega) rfl (wp_uI (wp_uI (wp_uI (wp_nl ?_))))
  refine wp_gxE (l := [U8 (S'.w 0), U8 (S'.w 1), U8 (S'.w 2)]) (by omega) rfl (wp_uI (wp_uI (wp_uI (wp_nl (wp_bnd ?_)))))
  refine scope_Meets_wp (f := S.w) (g := S'.w) fun b1 e1 => wp_asB (wp_cond (fun c => wp_bB ⟨fun _ => (meP_clP S S').1 (.inl (e1.1 c)), fun _ => rfl⟩) (fun c1 => ?_))
  refine wp_gxE (l := [U8 (S.w 0), U8 (S.w 1), U8 (S.w 2)]) (by omega) rfl (wp_uI (wp_uI (wp_uI (wp_nl ?_))))
  refine wp_gxE (l := [U8 (S'.r 0), U8 (S'.r 1), U8 (S'.r 2)]) (by omega) rfl (wp_uI (wp_uI (wp_uI (wp_nl (wp_bnd ?_)))))
  refine scope_Meets_wp (f := S.w) (g := S'.r) fun b2 e2 => wp_asB (wp_cond (fun c => wp_bB ⟨fun _ => (meP_clP S S').1 (.inr (.inl (e2.1 c))), fun _ => rfl⟩) (fun c2 => ?_))
  refine wp_gxE (l := [U8 (S'.w 0), U8 (S'.w 1), U8 (S'.w 2)]) (by omega) rfl (wp_uI (wp_uI (wp_uI (wp_nl ?_))))
  refine wp_gxE (l := [U8 (S.r 0), U8 (S.r 1), U8 (S.r 2)]) (by omega) rfl (wp_uI (wp_uI (wp_uI (wp_nl (wp_bnd ?_)))))
  refine scope_Meets_wp (f := S'.w) (g := S.r) fun b3 e3 => wp_asB (wp_bB ?_)
  rw [← meP_clP, e3]
  refine ⟨fun hh => .inr (.inr hh), ?_⟩
  rintro (hh | hh | hh)
  · rw [e1.2 hh] at c1; cases c1
  · rw [e2.2 hh] at c2; cases c2
  · exact hh

/-- things, bit by bit. -/
def bitsL (f : Nat → BitVec 8) : List HV := (List.range 24).map fun j => .bool ((f (j / 8)).getLsbD (j % 8))
def plainL (S : Sco) : List HV := bitsL S.r ++ bitsL S.w ++ [.bool (S.s 0), .bool (S.s 1), .bool (S.s 2), .bool (S.t 0), .bool (S.t 1), .bool (S.t 2), .bool (S.t 3), .bool S.su, .bool S.wa]
theorem bitsL_len (f : Nat → BitVec 8) : (bitsL f).length = 24 := rfl
theorem plainL_len (S : Sco) : (plainL S).length = 57 := rfl
theorem bitsL_get {f : Nat → BitVec 8} {j : Nat} (hj : j < 24) : (bitsL f)[j]? = some (.bool ((f (j / 8)).getLsbD (j % 8))) := by
  unfold bitsL
  rw [List.getElem?_map, List.getElem?_range hj]; rfl
theorem plainL_r {S : Sco} {k i : Nat} (hk : k < 3) (hi : i < 8) : (plainL S)[k * 8 + i]? = some (.bool ((S.r k).getLsbD i)) := by
  have h := bitsL_get (f := S.r) (j := k * 8 + i) (by omega)
  rw [show (k * 8 + i) / 8 = k by omega, show (k * 8 + i) % 8 = i by omega] at h
  unfold plainL
  rw [List.getElem?_append_left (by rw [List.length_append, bitsL_len]; omega), List.getElem?_append_left (by rw [bitsL_len]; omega), h]
theorem plainL_w {S : Sco} {k i : Nat} (hk : k < 3) (hi : i < 8) : (plainL S)[24 + (k * 8 + i)]? = some (.bool ((S.w k).getLsbD i)) := by
  have h := bitsL_get (f := S.w) (j := k * 8 + i) (by omega)
  rw [show (k * 8 + i) / 8 = k by omega, show (k * 8 + i) % 8 = i by omega] at h
  unfold plainL
  rw [List.getElem?_append_left (by rw [List.length_append, bitsL_len, bitsL_len]; omega), List.getElem?_append_right (by rw [bitsL_len]; omega), bitsL_len, Nat.add_sub_cancel_left, h]
/-- the first n places are told. -/
def BitsI (f : Nat → BitVec 8) (n : Nat) (y : List HV) : Prop := y.length = 24 ∧ ∀ j, j < n → y[j]? = some (.bool ((f (j / 8)).getLsbD (j % 8)))
theorem BitsI.all {f : Nat → BitVec 8} {y : List HV} (h : BitsI f 24 y) : y = bitsL f := by
  refine List.ext_getElem? fun j => ?_
  by_cases hj : j < 24
  · rw [h.2 j hj, bitsL_get hj]
  · rw [List.getElem?_eq_none (by rw [h.1]; omega), List.getElem?_eq_none (by rw [bitsL_len]; omega)]
theorem law28_bitsOf_wp {D : HV → List HV → M HV} {H : Heap} {Q : HV → Heap → Prop} {f : Nat → BitVec 8} (h : Q (.agg (bitsL f)) H) :
    wp (f_law28_bitsOf D [.agg [U8 (f 0), U8 (f 1), U8 (f 2)]]) Q H := by
  unfold f_law28_bitsOf
  with_reducible repeat' (first | refine wp_finF ?_ | refine wp_uA ?_ | refine wp_uI ?_ | refine wp_uB ?_ | refine wp_uL ?_ | refine wp_uS ?_ | refine wp_uP ?_ | refine wp_uc ?_ | refine wp_nl ?_ | refine wp_asB ?_ | refine wp_asI ?_ | refine wp_asSl ?_ | refine wp_asT ?_ | refine wp_asA ?_ | refine wp_asS ?_ | refine wp_asP ?_ | refine wp_nN ?_ | refine wp_rN ?_ | refine wp_xN ?_ | refine wp_nB ?_ | refine wp_rB ?_ | refine wp_xB rfl ?_ | refine wp_xB' rfl ?_ | refine wp_bB ?_ | refine wp_rX ?_ | refine wp_xX ?_ | refine wp_rE ?_ | refine wp_xE ?_ | refine wp_rR ?_ | refine wp_xR ?_ | refine wp_r0 ?_ | refine wp_x0 ?_ | refine wp_rF ?_ | refine wp_rF0 ?_ | refine wp_rF2 ?_ | refine wp_rF3 ?_ | refine wp_rF4 ?_ | refine wp_condT ?_ | refine wp_condF ?_ | refine wp_condNT ?_ | refine wp_condNF ?_)
  refine wp_for (σ := List HV) 3 (by omega) rfl (fun y i => [I i, .agg y]) (out := fun y => [.agg y]) (fun _ _ => rfl) rfl (fun k y H' => H' = H ∧ BitsI f (k * 8) y) (List.replicate 24 (HV.bool false)) rfl ⟨rfl, by simp, fun _ h => by omega⟩ ?_ ?_
  · rintro k y H1 hk ⟨rfl, hy⟩
    refine wp_for (σ := List HV) 8 (by omega) rfl (fun y i => [I i, .agg y]) (out := fun y => [.agg y]) (fun _ _ => rfl) rfl (fun i y H' => H' = H1 ∧ BitsI f (k * 8 + i) y) y rfl ⟨rfl, hy⟩ ?_ ?_
    · rintro i y H2 hi ⟨rfl, hy⟩
      have hw : IntKind.wrap .u64 (i : Int) = (i : Int) := by
        show (i : Int) % 18446744073709551616 = _
        omega
      rw [hw]
      refine wp_gdD (by omega) (wp_gdD (by omega) (wp_gxg (v := U8 (f k)) (by rcases lt3 hk with rfl | rfl | rfl <;> rfl) (wp_asI ?_)))
      rw [bit_test _ hi]
      refine wp_gdD (by omega) (wp_gdD (by omega) (wp_gdD (by omega) (wp_gdD (by omega) (wp_gdD (by omega) (wp_gdD (by rw [hy.1]; omega) ?_)))))
      refine wp_nR ⟨_, rfl, rfl, by rw [List.length_set]; exact hy.1, fun j hj => ?_⟩
      rw [show 0 + (k : Int).toNat * 8 + (i : Int).toNat * 1 = k * 8 + i by omega, List.getElem?_set]
      split
      · rename_i e
        subst e
        rw [if_pos (by rw [hy.1]; omega), show (k * 8 + i) / 8 = k by omega, show (k * 8 + i) % 8 = i by omega]
      · exact hy.2 j (by omega)
    · rintro y H' ⟨rfl, hy⟩
      refine wp_uA (wp_nl (wp_nR ⟨_, rfl, rfl, ?_⟩))
      rw [Nat.succ_mul]; exact hy
  · rintro y H' ⟨rfl, hy⟩
    have e := hy.all
    subst e
    refine wp_uA (wp_nl (wp_gxAl rfl (wp_gdQ rfl (wp_gdL (Nat.le_refl _) (wp_gxP rfl rfl (wp_rF h))))))
theorem law28_plain_wp {D : HV → List HV → M HV} {H : Heap} {Q : HV → Heap → Prop} {S : Sco} (h : Q (.agg (plainL S)) H) : wp (f_law28_plain D [.agg S.cells]) Q H := by
  have l1 := cells_len S
  unfold f_law28_plain
  with_reducible repeat' (first | refine wp_finF ?_ | refine wp_uA ?_ | refine wp_uI ?_ | refine wp_uB ?_ | refine wp_uL ?_ | refine wp_uS ?_ | refine wp_uP ?_ | refine wp_uc ?_ | refine wp_nl ?_ | refine wp_asB ?_ | refine wp_asI ?_ | refine wp_asSl ?_ | refine wp_asT ?_ | refine wp_asA ?_ | refine wp_asS ?_ | refine wp_asP ?_ | refine wp_nN ?_ | refine wp_rN ?_ | refine wp_xN ?_ | refine wp_nB ?_ | refine wp_rB ?_ | refine wp_xB rfl ?_ | refine wp_xB' rfl ?_ | refine wp_bB ?_ | refine wp_rX ?_ | refine wp_xX ?_ | refine wp_rE ?_ | refine wp_xE ?_ | refine wp_rR ?_ | refine wp_xR ?_ | refine wp_r0 ?_ | refine wp_x0 ?_ | refine wp_rF ?_ | refine wp_rF0 ?_ | refine wp_rF2 ?_ | refine wp_rF3 ?_ | refine wp_rF4 ?_ | refine wp_condT ?_ | refine wp_condF ?_ | refine wp_condNT ?_ | refine wp_condNF ?_)
  refine wp_gxE (l := [U8 (S.r 0), U8 (S.r 1), U8 (S.r 2)]) (by omega) rfl (wp_uI (wp_uI (wp_uI (wp_nl (wp_bnd ?_)))))
  refine law28_bitsOf_wp (f := S.r) (wp_asA ?_)
  refine wp_gxE (l := [U8 (S.w 0), U8 (S.w 1), U8 (S.w 2)]) (by omega) rfl (wp_uI (wp_uI (wp_uI (wp_nl (wp_bnd ?_)))))
  refine law28_bitsOf_wp (f := S.w) (wp_asA ?_)
  refine wp_gxE (l := [.bool (S.s 0), .bool (S.s 1), .bool (S.s 2)]) (by omega) rfl (wp_uB (wp_uB (wp_uB (wp_nl ?_))))
  refine wp_gxE (l := [.bool (S.t 0), .bool (S.t 1), .bool (S.t 2), .bool (S.t 3)]) (by omega) rfl (wp_uB (wp_uB (wp_uB (wp_uB (wp_nl ?_)))))
  refine wp_gxg (v := .bool S.su) rfl (wp_asB (wp_gxg (v := .bool S.wa) rfl (wp_asB ?_)))
  refine wp_gdQ rfl (wp_gdQ rfl ?_)
  have e : putN (putN (putN (putN (putN (putN (List.replicate 57 (HV.bool false)) 0 (bitsL S.r)) 24 (bitsL S.w)) 48 [.bool (S.s 0), .bool (S.s 1), .bool (S.s 2)]) 51 [.bool (S.t 0), .bool (S.t 1), .bool (S.t 2), .bool (S.t 3)]) 55 [.bool S.su]) 56 [.bool S.wa] = plainL S := by kernel_rfl
  rw [e]
  exact wp_gdQ rfl (wp_gdL (Nat.le_refl _) (wp_gxP rfl rfl (wp_rF h)))

theorem ref28_Clash_wp {D : HV → List HV → M HV} {H : Heap} {Q : HV → Heap → Prop} {S S' : Sco} (h : ∀ b : Bool, (b = true ↔ ClP S S') → Q (.bool b) H) :
    wp (f_ref28_Clash D [.agg (plainL S), .agg (plainL S')]) Q H := by
  unfold f_ref28_Clash
  with_reducible repeat' (first | refine wp_finF ?_ | refine wp_uA ?_ | refine wp_uI ?_ | refine wp_uB ?_ | refine wp_uL ?_ | refine wp_uS ?_ | refine wp_uP ?_ | refine wp_uc ?_ | refine wp_nl ?_ | refine wp_asB ?_ | refine wp_asI ?_ | refine wp_asSl ?_ | refine wp_asT ?_ | refine wp_asA ?_ | refine wp_asS ?_ | refine wp_asP ?_ | refine wp_nN ?_ | refine wp_rN ?_ | refine wp_xN ?_ | refine wp_nB ?_ | refine wp_rB ?_ | refine wp_xB rfl ?_ | refine wp_xB' rfl ?_ | refine wp_bB ?_ | refine wp_rX ?_ | refine wp_xX ?_ | refine wp_rE ?_ | refine wp_xE ?_ | refine wp_rR ?_ | refine wp_xR ?_ | refine wp_r0 ?_ | refine wp_x0 ?_ | refine wp_rF ?_ | refine wp_rF0 ?_ | refine wp_rF2 ?_ | refine wp_rF3 ?_ | refine wp_rF4 ?_ | refine wp_condT ?_ | refine wp_condF ?_ | refine wp_condNT ?_ | refine wp_condNF ?_)
  refine wp_loop0 3 (by omega) rfl (fun _ => rfl) rfl (fun k => ∀ k', k' < k → ∀ i, i < 8 → ¬ ClAt S S' k' i) (fun _ h => by omega) ?_ ?_
  · intro k hk hP
    refine wp_loop0 8 (by omega) rfl (fun _ => rfl) rfl (fun i => ∀ i', i' < i → ¬ ClAt S S' k i') (fun _ h => by omega) ?_ ?_
    · intro i hi hI
      have er : ∀ S : Sco, (plainL S)[0 + (k : Int).toNat * 8 + (i : Int).toNat * 1]? = some (.bool ((S.r k).getLsbD i)) := fun S => by
        rw [← plainL_r hk hi]; congr 1; omega
      have ew : ∀ S : Sco, (plainL S)[24 + (k : Int).toNat * 8 + (i : Int).toNat * 1]? = some (.bool ((S.w k).getLsbD i)) := fun S => by
        rw [← plainL_w hk hi]; congr 1; omega
      have hk' : (k : Int) < 3 := by omega
      have hi' : (i : Int) < 8 := by omega
      have g0 : (0 : Int) ≤ k := by omega
      have g1 : (0 : Int) ≤ i := by omega
      refine wp_jnP (ClAt S S' k i) ?_ (fun hh => wp_uB (wp_nl (wp_condT ?_))) (fun hh => wp_uB (wp_nl (wp_condF (wp_n0 fun i' hi' => ?_))))
      · unfold ClAt
        refine wp_gdD g0 (wp_gdD hk' (wp_gdD g1 (wp_gdD hi' (wp_gxg (ew S) (wp_asB ?_)))))
        refine wp_cond (fun c1 => ?_) (fun c1 => ?_)
        · refine wp_gdD g0 (wp_gdD hk' (wp_gdD g1 (wp_gdD hi' (wp_gxg (er S') (wp_asB ?_)))))
          refine wp_cond (fun c2 => wp_bB (by simp [c1, c2])) (fun c2 => ?_)
          refine wp_gdD g0 (wp_gdD hk' (wp_gdD g1 (wp_gdD hi' (wp_gxg (ew S') (wp_asB ?_)))))
          refine wp_cond (fun c3 => wp_bB (by simp [c1, c3])) (fun c3 => ?_)
          refine wp_gdD g0 (wp_gdD hk' (wp_gdD g1 (wp_gdD hi' (wp_gxg (ew S') (wp_asB ?_)))))
          exact wp_cond (fun c4 => by rw [c3] at c4; cases c4) (fun c4 => wp_bB (by simp [c1, c2, c3]))
        · refine wp_gdD g0 (wp_gdD hk' (wp_gdD g1 (wp_gdD hi' (wp_gxg (ew S') (wp_asB ?_)))))
          refine wp_cond (fun c2 => ?_) (fun c2 => wp_bB (by simp [c1, c2]))
          refine wp_gdD g0 (wp_gdD hk' (wp_gdD g1 (wp_gdD hi' (wp_gxg (er S) (wp_asB (wp_bB (by simp [c1, c2])))))))
      · exact wp_r0 (wp_rB (wp_r0 (wp_rB (wp_rF (h true ⟨fun _ => ⟨k, hk, i, hi, hh⟩, fun _ => rfl⟩)))))
      · by_cases e : i' = i
        · subst e; exact hh
        · exact hI i' (by omega)
    · intro hI
      refine wp_nl (wp_n0 fun k' hk' => ?_)
      by_cases e : k' = k
      · subst e; exact fun i hi => hI i hi
      · exact hP k' (by omega)
  · intro hP
    exact wp_nl (wp_rF (h false ⟨fun hh => (by cases hh), fun ⟨k, hk, i, hi, hh⟩ => absurd hh (hP k hk i hi)⟩))
end Go.Proofs.Ytijppadieomnjaa.HT
