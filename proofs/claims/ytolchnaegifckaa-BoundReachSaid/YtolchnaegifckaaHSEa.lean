/- What is reached from a place; what bound.seen computes. Conditions: none (lemmas). -/
import Derived.Test.YtolchnaegifckaaHSDe
import Derived.Test.YtolchnaegifckaaHSMe
namespace Go.Proofs.Ytolchnaegifckaa.HS
open Go

/-- a block of a function's own, of bools. -/
structure Bools (H : Heap) (b : Nat) (w : List Bool) : Prop where
  lt : b < H.n
  get : H.get b = .cells (w.map HV.bool) false
  len : w.length ≤ 9223372036854775807
theorem Bools.rows {H : Heap} {b : Nat} {w : List Bool} (h : Bools H b w) : RBools H (numSl b w.length) w := by
  refine (⟨by simp [numSl], by simpa using h.len, by simp [numSl], .inl rfl, (by intro l hl; obtain ⟨x, _, rfl⟩ := List.mem_map.1 hl; rfl), .inr ⟨b, 0, _, false, rfl, h.lt, h.get, by simp, ?_⟩⟩ : SlR H (numSl b w.length) 1 (w.map fun x => [HV.bool x]))
  have : ∀ w : List Bool, (w.map fun x => [HV.bool x]).flatten = w.map HV.bool := by
    intro w
    induction w with
    | nil => rfl
    | cons x w ih => simp [ih]
  rw [this, List.drop_zero, List.length_map, Nat.mul_one, List.take_of_length_le (by simp)]
theorem Bools.set {H : Heap} {b : Nat} {w : List Bool} (h : Bools H b w) (i : Nat) (v : Bool) : Bools (H.set b (.cells ((w.map HV.bool).set i (.bool v)) false)) b (w.set i v) :=
  ⟨h.lt, by simp [Heap.set, List.map_set], by simpa using h.len⟩
theorem Bools.but {M : Nat → Prop} {H H' : Heap} {b : Nat} {w : List Bool} (h : Bools H b w) (hb : But M H H') (hm : ¬ M b) : Bools H' b w := ⟨Nat.lt_of_lt_of_le h.lt hb.n, by rw [hb.get b h.lt hm]; exact h.get, h.len⟩
theorem Bools.keeps {H H' : Heap} {b : Nat} {w : List Bool} (h : Bools H b w) (hb : Keeps H H') : Bools H' b w := h.but (M := fun _ => False) hb.but (fun h => h)
theorem Bools.new {H : Heap} {n : Nat} (hn : n ≤ 9223372036854775807) : Bools (H.push (.cells (repL n [.bool false]) false)) H.n (List.replicate n false) :=
  ⟨by simp [Heap.push], by simp [Heap.push, repL_one], by simpa using hn⟩
section
variable {α : Type} {Q : α → Heap → Prop} {H : Heap}
theorem wp_boolget {b : Nat} {w : List Bool} (h : Bools H b w) {s : Sl} (hs : s = numSl b w.length) {i : Nat} (hi : i < w.length) {g : Nat → Nat → HV → M α} (hg : ∀ b o, wp (g b o (.bool w[i])) Q H) :
    wp (ix s (i : Int) 1 fun b o => ldC b o fun c => g b o c) Q H := by
  subst hs
  exact wp_atB h.rows hi hg
theorem wp_boolset {b : Nat} {w : List Bool} (h : Bools H b w) {s : Sl} (hs : s = numSl b w.length) {i : Nat} (hi : i < w.length) {v : Bool} {m : M α}
    (hm : Bools (H.set b (.cells ((w.map HV.bool).set i (.bool v)) false)) b (w.set i v) → wp m Q (H.set b (.cells ((w.map HV.bool).set i (.bool v)) false))) :
    wp (ix s (i : Int) 1 fun b o => stC b o (.bool v) m) Q H := by
  subst hs
  unfold ix
  refine wp_gd (by simp) (wp_gd (by show decide ((i : Int) < (w.length : Int)) = true; simp only [decide_eq_true_eq]; omega) ?_)
  show wp (mP (some (b, 0)) _) Q H
  rw [mP_eq']
  refine wp_stC (o := 0 + (i : Int).toNat * 1) h.get (by simp only [List.length_map]; omega) rfl ?_
  rw [Nat.zero_add, Nat.mul_one, Int.toNat_natCast]
  exact hm (h.set _ _)
end

theorem bound_next_wp' {D : HV → List HV → M HV} {H : Heap} {Q : HV → Heap → Prop} {s : Sl} {p : List Ins} (hs : RProg H s p) (hn : p.length ≤ 1000) {i : Nat} (hi : i < p.length)
    (h : ∀ s' H', Keeps H H' → (∀ b o, s'.p = some (b, o) → H.n ≤ b) → RInts H' s' (nextL p[i] i) → Q (.sl s') H') : wp (f_bound_next D [.sl s, I i]) Q H := by
  unfold f_bound_next
  with_reducible repeat' (first | refine wp_finF ?_ | refine wp_uA ?_ | refine wp_uI ?_ | refine wp_uB ?_ | refine wp_uL ?_ | refine wp_uS ?_ | refine wp_uP ?_ | refine wp_uc ?_ | refine wp_nl ?_ | refine wp_asB ?_ | refine wp_asI ?_ | refine wp_asSl ?_ | refine wp_asT ?_ | refine wp_asA ?_ | refine wp_asS ?_ | refine wp_asP ?_ | refine wp_nN ?_ | refine wp_rN ?_ | refine wp_xN ?_ | refine wp_nB ?_ | refine wp_rB ?_ | refine wp_xB rfl ?_ | refine wp_xB' rfl ?_ | refine wp_bB ?_ | refine wp_rX ?_ | refine wp_xX ?_ | refine wp_rE ?_ | refine wp_xE ?_ | refine wp_rR ?_ | refine wp_xR ?_ | refine wp_r0 ?_ | refine wp_x0 ?_ | refine wp_rF ?_ | refine wp_rF0 ?_ | refine wp_rF2 ?_ | refine wp_rF3 ?_ | refine wp_rF4 ?_ | refine wp_condT ?_ | refine wp_condF ?_ | refine wp_condNT ?_ | refine wp_condNF ?_)
  refine wp_at hs hi fun _ _ => ?_
  have h1 : wr ((i : Int) + 1) = (i : Int) + 1 := wr_small (by omega) (by omega)
  with_reducible repeat' (first | refine wp_finF ?_ | refine wp_uA ?_ | refine wp_uI ?_ | refine wp_uB ?_ | refine wp_uL ?_ | refine wp_uS ?_ | refine wp_uP ?_ | refine wp_uc ?_ | refine wp_nl ?_ | refine wp_asB ?_ | refine wp_asI ?_ | refine wp_asSl ?_ | refine wp_asT ?_ | refine wp_asA ?_ | refine wp_asS ?_ | refine wp_asP ?_ | refine wp_nN ?_ | refine wp_rN ?_ | refine wp_xN ?_ | refine wp_nB ?_ | refine wp_rB ?_ | refine wp_xB rfl ?_ | refine wp_xB' rfl ?_ | refine wp_bB ?_ | refine wp_rX ?_ | refine wp_xX ?_ | refine wp_rE ?_ | refine wp_xE ?_ | refine wp_rR ?_ | refine wp_xR ?_ | refine wp_r0 ?_ | refine wp_x0 ?_ | refine wp_rF ?_ | refine wp_rF0 ?_ | refine wp_rF2 ?_ | refine wp_rF3 ?_ | refine wp_rF4 ?_ | refine wp_condT ?_ | refine wp_condF ?_ | refine wp_condNT ?_ | refine wp_condNF ?_)
  rw [h1]
  with_reducible repeat' (first | refine wp_finF ?_ | refine wp_uA ?_ | refine wp_uI ?_ | refine wp_uB ?_ | refine wp_uL ?_ | refine wp_uS ?_ | refine wp_uP ?_ | refine wp_uc ?_ | refine wp_nl ?_ | refine wp_asB ?_ | refine wp_asI ?_ | refine wp_asSl ?_ | refine wp_asT ?_ | refine wp_asA ?_ | refine wp_asS ?_ | refine wp_asP ?_ | refine wp_jn ?_ | refine wp_nN ?_ | refine wp_rN ?_ | refine wp_xN ?_ | refine wp_nB ?_ | refine wp_rB ?_ | refine wp_xB rfl ?_ | refine wp_xB' rfl ?_ | refine wp_bB ?_ | refine wp_rX ?_ | refine wp_xX ?_ | refine wp_rE ?_ | refine wp_xE ?_ | refine wp_rR ?_ | refine wp_xR ?_ | refine wp_r0 ?_ | refine wp_x0 ?_ | refine wp_rF ?_ | refine wp_rF0 ?_ | refine wp_rF2 ?_ | refine wp_rF3 ?_ | refine wp_rF4 ?_ | refine wp_condT ?_ | refine wp_condF ?_ | refine wp_condNT ?_ | refine wp_condNF ?_ | refine wp_condD (fun _ => ?_) (fun _ => ?_) | refine wp_condE (fun _ => ?_) (fun _ => ?_) | refine wp_condNE (fun _ => ?_) (fun _ => ?_) | refine wp_condN (fun _ => ?_) (fun _ => ?_) | refine wp_cond (fun _ => ?_) (fun _ => ?_) | refine wp_nw ?_)
  all_goals first
    | (refine h _ _ (Keeps.refl _) (by intro b o e; cases e) ?_
       have : nextL p[i] i = [] := by clear h; unfold nextL; grind
       rw [this]; exact rows_nil)
    | (refine h _ _ (Keeps.push _ _) (by intro b o e; cases e; exact Nat.le_refl _) ?_
       have : nextL p[i] i = [(p[i]).a] := by clear h; unfold nextL; grind
       rw [this]; exact rints_one)
    | (refine h _ _ (Keeps.push _ _) (by intro b o e; cases e; exact Nat.le_refl _) ?_
       have : nextL p[i] i = [(i : Int) + 1, (p[i]).a] := by clear h; unfold nextL; grind
       rw [this]; exact rints_two)
    | (refine h _ _ (Keeps.push _ _) (by intro b o e; cases e; exact Nat.le_refl _) ?_
       have : nextL p[i] i = [(i : Int) + 1] := by clear h; unfold nextL; grind
       rw [this]; exact rints_one)

theorem nextL_two (x : Ins) (i : Nat) : (nextL x i).length ≤ 2 := by unfold nextL; grind
/-- what is reached from a place. -/
inductive Rch (p : List Ins) (a : Nat) : Nat → Prop
  | refl : Rch p a a
  | step {i j : Nat} (hi : i < p.length) : Rch p a i → (j : Int) ∈ nextL p[i] i → Rch p a j
noncomputable def seenL (p : List Ins) (a : Nat) : List Bool := (List.range (p.length + 1)).map fun j => open Classical in decide (Rch p a j)
theorem seenL_len (p : List Ins) (a : Nat) : (seenL p a).length = p.length + 1 := by simp [seenL]
theorem seenL_get {p : List Ins} {a j : Nat} (hj : j < (seenL p a).length) : (seenL p a)[j] = true ↔ Rch p a j := by simp [seenL]
/-- reached by a step from below i. -/
def RchB (p : List Ins) (a i j : Nat) : Prop := j = a ∨ ∃ i', ∃ hi : i' < p.length, i' < i ∧ Rch p a i' ∧ (j : Int) ∈ nextL p[i'] i'
theorem rchB_all {p : List Ins} {a j : Nat} : RchB p a p.length j ↔ Rch p a j := by
  constructor
  · rintro (rfl | ⟨i, hi, _, h1, h2⟩)
    · exact .refl
    · exact .step hi h1 h2
  · intro h
    cases h with
    | refl => exact .inl rfl
    | step hi h1 h2 => exact .inr ⟨_, hi, hi, h1, h2⟩
theorem rchB_self {p : List Ins} (hc : CanB p) {a j : Nat} : RchB p a j j ↔ Rch p a j := by
  rw [← rchB_all]
  constructor
  · rintro (rfl | ⟨i, hi, _, h1, h2⟩)
    · exact .inl rfl
    · exact .inr ⟨i, hi, hi, h1, h2⟩
  · rintro (rfl | ⟨i, hi, _, h1, h2⟩)
    · exact .inl rfl
    · have := nextL_range hc hi h2
      exact .inr ⟨i, hi, by omega, h1, h2⟩
theorem rchB_succ {p : List Ins} {a i j : Nat} (hi : i < p.length) : RchB p a (i + 1) j ↔ RchB p a i j ∨ (Rch p a i ∧ (j : Int) ∈ nextL p[i] i) := by
  constructor
  · rintro (rfl | ⟨i', hi', hlt, h1, h2⟩)
    · exact .inl (.inl rfl)
    · by_cases e : i' = i
      · subst e; exact .inr ⟨h1, h2⟩
      · exact .inl (.inr ⟨i', hi', by omega, h1, h2⟩)
  · rintro ((rfl | ⟨i', hi', hlt, h1, h2⟩) | ⟨h1, h2⟩)
    · exact .inl rfl
    · exact .inr ⟨i', hi', by omega, h1, h2⟩
    · exact .inr ⟨i, hi, by omega, h1, h2⟩

theorem bound_seen_wp {D : HV → List HV → M HV} {H : Heap} {Q : HV → Heap → Prop} {s : Sl} {p : List Ins} (hs : RProg H s p) (hc : CanB p) {a : Nat} (ha : a ≤ p.length)
    (h : ∀ b H', Keeps H H' → H.n ≤ b → Bools H' b (seenL p a) → Q (.sl (numSl b (p.length + 1))) H') : wp (f_bound_seen D [.sl s, I a]) Q H := by
  unfold f_bound_seen
  have hlen := hs.lenI
  have h48 := hc.len
  have h1 : wr ((s.len : Int) + 1) = ((p.length + 1 : Nat) : Int) := by rw [hlen, wr_small (by omega) (by omega)]; rfl
  with_reducible repeat' (first | refine wp_finF ?_ | refine wp_uA ?_ | refine wp_uI ?_ | refine wp_uB ?_ | refine wp_uL ?_ | refine wp_uS ?_ | refine wp_uP ?_ | refine wp_uc ?_ | refine wp_nl ?_ | refine wp_asB ?_ | refine wp_asI ?_ | refine wp_asSl ?_ | refine wp_asT ?_ | refine wp_asA ?_ | refine wp_asS ?_ | refine wp_asP ?_ | refine wp_nN ?_ | refine wp_rN ?_ | refine wp_xN ?_ | refine wp_nB ?_ | refine wp_rB ?_ | refine wp_xB rfl ?_ | refine wp_xB' rfl ?_ | refine wp_bB ?_ | refine wp_rX ?_ | refine wp_xX ?_ | refine wp_rE ?_ | refine wp_xE ?_ | refine wp_rR ?_ | refine wp_xR ?_ | refine wp_r0 ?_ | refine wp_x0 ?_ | refine wp_rF ?_ | refine wp_rF0 ?_ | refine wp_rF2 ?_ | refine wp_rF3 ?_ | refine wp_rF4 ?_ | refine wp_condT ?_ | refine wp_condF ?_ | refine wp_condNT ?_ | refine wp_condNF ?_)
  rw [h1]
  refine wp_gdD (by omega) (wp_gdD (by omega) (wp_gdD (by unfold room; omega) (wp_nw ?_)))
  rw [Int.toNat_natCast]
  have hk0 := Keeps.push H (.cells (repL (p.length + 1) [.bool false]) false)
  have hb0 : Bools (H.push (.cells (repL (p.length + 1) [.bool false]) false)) H.n (List.replicate (p.length + 1) false) := Bools.new (by omega)
  generalize H.push (.cells (repL (p.length + 1) [.bool false]) false) = H0 at hk0 hb0
  refine wp_boolset hb0 (by simp [numSl]) (by simp; omega) fun hb1 => ?_
  have hk1 : Keeps H (H0.set H.n (.cells (((List.replicate (p.length + 1) false).map HV.bool).set a (.bool true)) false)) := hk0.set (Nat.le_refl _) _
  generalize H0.set H.n (.cells (((List.replicate (p.length + 1) false).map HV.bool).set a (.bool true)) false) = H1 at hb1 hk1
  refine wp_blk ?_
  refine wp_loop (fun k vs H' => ∃ i bs, k + i = p.length ∧ vs = [I (i : Int)] ∧ bs.length = p.length + 1 ∧ Keeps H H' ∧ Bools H' H.n bs ∧ ∀ j (hj : j < bs.length), bs[j] = true ↔ RchB p a i j) p.length
    ⟨0, _, by omega, rfl, by simp, hk1, hb1, ?_⟩ ?_
  · intro j hj
    simp only [List.getElem_set, List.getElem_replicate]
    split
    · rename_i e; subst e; exact ⟨fun _ => .inl rfl, fun _ => rfl⟩
    · rename_i e
      refine ⟨fun hh => (by cases hh), fun hh => ?_⟩
      rcases hh with rfl | ⟨i', _, hlt, _⟩
      · exact absurd rfl e
      · omega
  · rintro k vs H2 ⟨i, bs, hki, rfl, hbl, hk2, hb2, hbs⟩
    have hs2 := hs.keeps hk2
    with_reducible repeat' (first | refine wp_finF ?_ | refine wp_uA ?_ | refine wp_uI ?_ | refine wp_uB ?_ | refine wp_uL ?_ | refine wp_uS ?_ | refine wp_uP ?_ | refine wp_uc ?_ | refine wp_nl ?_ | refine wp_asB ?_ | refine wp_asI ?_ | refine wp_asSl ?_ | refine wp_asT ?_ | refine wp_asA ?_ | refine wp_asS ?_ | refine wp_asP ?_ | refine wp_nN ?_ | refine wp_rN ?_ | refine wp_xN ?_ | refine wp_nB ?_ | refine wp_rB ?_ | refine wp_xB rfl ?_ | refine wp_xB' rfl ?_ | refine wp_bB ?_ | refine wp_rX ?_ | refine wp_xX ?_ | refine wp_rE ?_ | refine wp_xE ?_ | refine wp_rR ?_ | refine wp_xR ?_ | refine wp_r0 ?_ | refine wp_x0 ?_ | refine wp_rF ?_ | refine wp_rF0 ?_ | refine wp_rF2 ?_ | refine wp_rF3 ?_ | refine wp_rF4 ?_ | refine wp_condT ?_ | refine wp_condF ?_ | refine wp_condNT ?_ | refine wp_condNF ?_)
    refine wp_condD (fun hi => ?_) (fun hi => ?_)
    · have hi' : i < p.length := by omega
      have hii : i < bs.length := by omega
      have hw : wr ((i : Int) + 1) = ((i + 1 : Nat) : Int) := by rw [wr_small (by omega) (by omega)]; rfl
      refine wp_blk ?_
      refine wp_boolget hb2 (by rw [hbl]; rfl) hii fun _ _ => wp_asB ?_
      refine wp_condN (fun c => ?_) (fun c => ?_)
      · refine wp_ret ?_
        show wp _ _ _
        refine wp_nl (wp_ret ?_)
        rw [hw]
        have hno : ¬ Rch p a i := by rw [← rchB_self hc, ← hbs i hii, c]; simp
        exact ⟨k - 1, by omega, i + 1, bs, by omega, rfl, hbl, hk2, hb2, fun j hj => by rw [hbs j hj, rchB_succ hi']; simp [hno]⟩
      · have hyes : Rch p a i := by rw [← rchB_self hc, ← hbs i hii]; exact c
        refine wp_bnd (bound_next_wp' hs2 (by omega) hi' fun s' H3 hk3 hnew hr => wp_asSl ?_)
        have hb3 := hb2.keeps hk3
        have hs'len := hr.lenI
        have hs'lt := hr.lt
        have hrange : ∀ z ∈ nextL p[i] i, (i : Int) < z ∧ z ≤ p.length := fun z hz => nextL_range hc hi' hz
        have hsmall : (nextL p[i] i).length ≤ 2 := nextL_two _ _
        have hnb : ∀ b o, s'.p = some (b, o) → ¬ (b = H.n) := fun b o e hh => by
          have := hnew b o e; have := hb2.lt; omega
        refine wp_blk ?_
        refine wp_loop (fun k vs H' => ∃ t bs', k + t = (nextL p[i] i).length ∧ vs = [I (t : Int)] ∧ bs'.length = p.length + 1 ∧ Keeps H H' ∧ Bools H' H.n bs' ∧ RInts H' s' (nextL p[i] i) ∧
            ∀ j (hj : j < bs'.length), bs'[j] = true ↔ RchB p a i j ∨ (j : Int) ∈ (nextL p[i] i).take t) (nextL p[i] i).length
          ⟨0, bs, by omega, rfl, hbl, hk2.trans hk3, hb3, hr, fun j hj => by rw [hbs j hj]; simp⟩ ?_
        rintro k2 vs2 H4 ⟨t, bs', hkt, rfl, hbl', hk4, hb4, hr4, hbs'⟩
        refine wp_uI (wp_nl (wp_condD (fun ht => ?_) (fun ht => ?_)))
        · have ht' : t < (nextL p[i] i).length := by omega
          have hwt : wr ((t : Int) + 1) = ((t + 1 : Nat) : Int) := by rw [wr_small (by omega) (by omega)]; rfl
          refine wp_atI hr4 ht' fun _ _ => wp_asI ?_
          have hz := hrange _ (List.getElem_mem ht')
          obtain ⟨z, hze⟩ : ∃ z : Nat, (nextL p[i] i)[t] = (z : Int) := ⟨((nextL p[i] i)[t]).toNat, by omega⟩
          rw [hze]
          rw [hze] at hz
          refine wp_boolset hb4 (by rw [hbl']; rfl) (by omega) fun hb5 => ?_
          have hbut : But (fun b => b = H.n) H4 (H4.set H.n (.cells ((bs'.map HV.bool).set z (.bool true)) false)) := (But.refl (fun b => b = H.n) H4).set (b := H.n) rfl _
          refine wp_ret ⟨k2 - 1, by omega, t + 1, bs'.set z true, by omega, by rw [hwt], by simpa using hbl', hk4.set (Nat.le_refl _) _, hb5, hr4.but hbut hnb, fun j hj => ?_⟩
          rw [List.getElem_set]
          have htk : (nextL p[i] i).take (t + 1) = (nextL p[i] i).take t ++ [(z : Int)] := by rw [← hze]; exact (List.take_append_getElem ht').symm
          rw [htk, List.mem_append, List.mem_singleton]
          split
          · rename_i e; subst e; simp
          · rename_i e
            rw [hbs' j (by simpa using hj)]
            constructor
            · rintro (h1 | h1)
              · exact .inl h1
              · exact .inr (.inl h1)
            · rintro (h1 | h1 | h1)
              · exact .inl h1
              · exact .inr h1
              · omega
        · have : t = (nextL p[i] i).length := by omega
          subst this
          refine wp_ret ?_
          show wp _ _ _
          refine wp_nl (wp_ret ?_)
          show wp _ _ _
          refine wp_nl (wp_ret ?_)
          rw [hw]
          exact ⟨k - 1, by omega, i + 1, bs', by omega, rfl, hbl', hk4, hb4, fun j hj => by
            rw [hbs' j hj, rchB_succ hi', List.take_length]; simp [hyes]⟩
    · have : i = p.length := by omega
      subst this
      refine wp_ret ?_
      show wp _ _ _
      refine wp_nl (wp_rF ?_)
      refine h _ _ hk2 (Nat.le_refl _) ?_
      have : bs = seenL p a := by
        refine List.ext_getElem (by rw [hbl, seenL_len]) fun j h1 h2 => ?_
        rw [Bool.eq_iff_iff, hbs j h1, seenL_get h2, rchB_all]
      rw [← this]; exact hb2
end Go.Proofs.Ytolchnaegifckaa.HS
